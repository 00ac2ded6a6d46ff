/- Plain laws of chapter 7's streams: what is laid is read. No program in sight. -/
import Derived.Test.YtobebgogbgeahaaRead
namespace Go.Proofs.Ytobebgogbgeahaa
set_option linter.unusedVariables false
set_option linter.unusedSimpArgs false

theorem layOf_nil : layOf [] = [] := rfl
theorem layOf_cons {l : List Nat} (h : l ≠ []) : layOf l = sectorOf (l.take 127) :: layOf (l.drop 127) := by
  have hp : 0 < l.length := List.length_pos_iff.2 h
  have hc : chunks l = chunks (l.drop 127) + 1 := by simp only [chunks, List.length_drop]; omega
  unfold layOf
  rw [hc, List.range_succ_eq_map, List.map_cons, List.map_map]
  congr 1
  refine List.map_congr_left fun k _ => ?_
  simp only [Function.comp, chunkOf, List.drop_drop]
  rw [show 127 * Nat.succ k = 127 + 127 * k by omega]
theorem last_sector {t : List Nat} (h : t.length ≤ 127) : last (sectorOf t) = t.length := by
  unfold last sectorOf
  rw [List.getElem?_append_right (by simp; omega)]
  simp only [List.length_append, List.length_replicate, show 127 - (t.length + (127 - t.length)) = 0 by omega]
  rfl
theorem take_sector (t : List Nat) : (sectorOf t).take t.length = t := by
  unfold sectorOf
  rw [List.append_assoc, List.take_left']
  rfl
theorem read_sector {t : List Nat} (h : t.length ≤ 127) (ss : List (List Nat)) : readL (sectorOf t :: ss) = if t.length < 127 then t else t ++ readL ss := by
  simp only [readL]
  rw [if_neg (by simp [sectorOf_length h]), last_sector h, if_neg (by omega), take_sector]

theorem read_take : ∀ (n : Nat) (l : List Nat), readL ((layOf l).take n) = l.take (127 * n) := by
  intro n
  induction n with
  | zero => intro l; simp [readL]
  | succ n ih =>
    intro l
    by_cases h : l = []
    · subst h; simp [layOf_nil, readL]
    · rw [layOf_cons h, List.take_succ_cons, read_sector (by simp; omega), ih]
      split
      · rename_i hlt
        rw [List.length_take] at hlt
        rw [List.take_of_length_le (by omega), List.take_of_length_le (by omega)]
      · rename_i hlt
        rw [List.length_take] at hlt
        rw [show 127 * (n + 1) = 127 + 127 * n by omega, List.take_add]
theorem layOf_length' (l : List Nat) : (layOf l).length = chunks l := by simp [layOf]
theorem read_lay (l : List Nat) : readL (layOf l) = l := by
  have := read_take (chunks l) l
  rw [List.take_of_length_le (by rw [layOf_length']; exact Nat.le_refl _), List.take_of_length_le (by unfold chunks; omega)] at this
  exact this
theorem zeros_sector : List.replicate 128 0 = sectorOf [] := by
  unfold sectorOf
  rw [List.nil_append, List.length_nil, Nat.sub_zero, ← List.replicate_succ']
theorem read_zeros (m : Nat) : readL (List.replicate m (List.replicate 128 0)) = [] := by
  cases m with
  | zero => rfl
  | succ m =>
    rw [List.replicate_succ, show List.replicate 128 0 = sectorOf [] from zeros_sector, read_sector (by simp)]
    simp
theorem read_more (m : Nat) : ∀ (k : Nat) (l : List Nat), l.length ≤ k → readL (layOf l ++ List.replicate m (List.replicate 128 0)) = l := by
  intro k
  induction k with
  | zero =>
    intro l hl
    obtain rfl : l = [] := List.eq_nil_of_length_eq_zero (by omega)
    exact read_zeros m
  | succ k ih =>
    intro l hl
    by_cases h : l = []
    · subst h
      exact read_zeros m
    · rw [layOf_cons h, List.cons_append, read_sector (by simp; omega)]
      have hp : 0 < l.length := List.length_pos_iff.2 h
      split
      · rename_i hlt
        rw [List.length_take] at hlt
        rw [List.take_of_length_le (by omega)]
      · rw [ih _ (by simp; omega), List.take_append_drop]

/-- A sector that holds a front of what the stream's i-th one holds, in its place: what is read then is a front of the stream. -/
theorem set_read (b : List Nat) (hb : b.length = 128) : ∀ (i : Nat) (s : List Nat), i < chunks s → last b ≤ (chunkOf s i).length → b.take (last b) = (chunkOf s i).take (last b) → ∃ g, 127 * i ≤ g ∧ g ≤ s.length ∧ readL ((layOf s).set i b) = s.take g := by
  intro i
  induction i with
  | zero =>
    intro s hi hl ht
    have hs : s ≠ [] := fun e => by subst e; simp [chunks] at hi
    have hc : chunkOf s 0 = s.take 127 := by simp [chunkOf]
    rw [hc] at hl ht
    rw [List.length_take] at hl
    rw [layOf_cons hs, List.set_cons_zero]
    simp only [readL]
    rw [if_neg (by simp [hb]), if_neg (by omega), ht, read_lay]
    by_cases h : last b < 127
    · rw [if_pos h]
      exact ⟨last b, by omega, by omega, by rw [List.take_take, Nat.min_eq_left (by omega)]⟩
    · rw [if_neg h]
      have e : last b = 127 := by omega
      exact ⟨s.length, by omega, Nat.le_refl _, by rw [e, List.take_take, Nat.min_self, List.take_append_drop, List.take_length]⟩
  | succ i ih =>
    intro s hi hl ht
    have hs : s ≠ [] := fun e => by subst e; simp [chunks] at hi
    have hc : chunkOf s (i + 1) = chunkOf (s.drop 127) i := by
      simp only [chunkOf, List.drop_drop]
      rw [show 127 * (i + 1) = 127 + 127 * i by omega]
    rw [hc] at hl ht
    have h127 : 127 < s.length := by unfold chunks at hi; omega
    obtain ⟨g, h1, h2, h3⟩ := ih (s.drop 127) (by simp only [chunks, List.length_drop] at hi ⊢; omega) hl ht
    rw [layOf_cons hs, List.set_cons_succ, read_sector (by simp; omega), h3, if_neg (by simp; omega)]
    rw [List.length_drop] at h2
    exact ⟨127 + g, by omega, by omega, by rw [List.take_add]⟩
end Go.Proofs.Ytobebgogbgeahaa
