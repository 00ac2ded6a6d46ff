/- Plain law of chapter 7's streams: a sector that a crash has left in part. No program in sight. -/
import Derived.Test.YtobebgogbgeahaaMath
namespace Go.Proofs.Ytobebgogbgeahaa
set_option linter.unusedVariables false
set_option linter.unusedSimpArgs false

theorem sector_get {c : List Nat} {j : Nat} (h : j < c.length) : (sectorOf c)[j]? = c[j]? := by
  unfold sectorOf
  rw [List.append_assoc, List.getElem?_append_left h]
theorem chunk_take (s : List Nat) (n i : Nat) : chunkOf (s.take n) i = (chunkOf s i).take (n - 127 * i) := by
  simp only [chunkOf, List.drop_take, List.take_take]
  rw [Nat.min_comm]
/-- a sector's first t bytes over those of an elder one -/
def tornOf (c c0 : List Nat) (t : Nat) : List Nat := (sectorOf c).take t ++ (sectorOf c0).drop t
theorem torn_length {c c0 : List Nat} {t : Nat} (h : c.length ≤ 127) (h0 : c0.length ≤ 127) (ht : t ≤ 128) : (tornOf c c0 t).length = 128 := by
  simp [tornOf, sectorOf_length h, sectorOf_length h0]; omega
theorem torn_get {c c0 : List Nat} {t j : Nat} (h : c.length ≤ 127) (ht : t ≤ 128) : (tornOf c c0 t)[j]? = if j < t then (sectorOf c)[j]? else (sectorOf c0)[j]? := by
  unfold tornOf
  have hl := sectorOf_length h
  by_cases hj : j < t
  · rw [if_pos hj, List.getElem?_append_left (by simp; omega), List.getElem?_take, if_pos hj]
  · rw [if_neg hj, List.getElem?_append_right (by simp; omega), List.getElem?_drop]
    congr 1
    simp [hl]; omega
theorem torn_ok {c c0 : List Nat} {t : Nat} (h : c.length ≤ 127) (h0 : c0 = c.take c0.length) (ht : t ≤ 128) :
    last (tornOf c c0 t) ≤ c.length ∧ (tornOf c c0 t).take (last (tornOf c c0 t)) = c.take (last (tornOf c c0 t)) := by
  have hl0 : c0.length ≤ c.length := by rw [h0]; simp; omega
  have h0' : c0.length ≤ 127 := by omega
  by_cases h128 : t = 128
  · subst h128
    have e : tornOf c c0 128 = sectorOf c := by
      unfold tornOf
      rw [List.take_of_length_le (by rw [sectorOf_length h]; omega), List.drop_of_length_le (by rw [sectorOf_length h0']; omega), List.append_nil]
    rw [e, last_sector h]
    refine ⟨Nat.le_refl _, ?_⟩
    rw [take_sector, List.take_length]
  · have e : last (tornOf c c0 t) = c0.length := by
      have := last_sector h0'
      unfold last at this ⊢
      rw [torn_get h ht, if_neg (by omega), this]
    rw [e]
    refine ⟨hl0, ?_⟩
    apply List.ext_getElem?
    intro j
    rw [List.getElem?_take, List.getElem?_take]
    by_cases hj : j < c0.length
    · rw [if_pos hj, if_pos hj, torn_get h ht, sector_get (by omega), sector_get hj]
      split
      · rfl
      · rw [h0, List.getElem?_take, if_pos hj]
    · rw [if_neg hj, if_neg hj]
theorem fronts_law (s : List Nat) (n i t : Nat) (hi : i < chunks s) (ht : t ≤ 128) : ∃ g, 127 * i ≤ g ∧ g ≤ s.length ∧ readL ((layOf s).set i (tornOf (chunkOf s i) (chunkOf (s.take n) i) t)) = s.take g := by
  have hc : (chunkOf s i).length ≤ 127 := by rw [chunkOf_length]; omega
  have h0 : chunkOf (s.take n) i = (chunkOf s i).take (chunkOf (s.take n) i).length := by
    rw [chunk_take, List.take_eq_take_iff]
    simp
  have hc0 : (chunkOf (s.take n) i).length ≤ 127 := by rw [chunkOf_length]; omega
  obtain ⟨h1, h2⟩ := torn_ok hc h0 ht
  exact set_read _ (torn_length hc hc0 ht) i s hi h1 h2
theorem torn_zero (c c0 : List Nat) : tornOf c c0 0 = sectorOf c0 := by simp [tornOf]
theorem torn_set {c c0 : List Nat} {j : Nat} (h : c.length ≤ 127) (h0 : c0.length ≤ 127) (hj : j < 128) (x : Nat) (hx : (sectorOf c)[j]? = some x) : (tornOf c c0 j).set j x = tornOf c c0 (j + 1) := by
  have hl := sectorOf_length h
  have hl0 := sectorOf_length h0
  apply List.ext_getElem?
  intro k
  rw [List.getElem?_set, torn_get h (by omega), torn_length h h0 (by omega), torn_get h (by omega)]
  by_cases hk : j = k
  · subst hk
    rw [if_pos rfl, if_pos hj, if_pos (by omega), hx]
  · rw [if_neg hk]
    by_cases hkj : k < j
    · rw [if_pos hkj, if_pos (by omega)]
    · rw [if_neg hkj, if_neg (by omega)]
end Go.Proofs.Ytobebgogbgeahaa
