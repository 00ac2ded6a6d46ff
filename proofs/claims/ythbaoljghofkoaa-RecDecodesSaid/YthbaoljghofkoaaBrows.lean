/- Words for slices of slices of bytes. Conditions: none; no program in sight. -/
import Derived.Test.YthbaoljghofkoaaWords
import Derived.Lib.Hide
namespace Go.Proofs.Ythbaoljghofkoaa
open Go.RowKit
set_option linter.unusedVariables false

/-- This value is a slice that owns the bytes l (5: uint8's number). -/
def RowIs (w : World) (base : Nat) (v : Value) (l : List Nat) : Prop := (∃ A c, v = .slice A l.length c) ∧ w.ownsRow base 5 1 v l.length (l.map byteV) ∧ Small l
/-- Each of these values .. -/
def Rows (w : World) (base : Nat) (L : List Value) (ls : List (List Nat)) : Prop := L.length = ls.length ∧ ∀ (j : Nat) (v : Value) (l : List Nat), L[j]? = some v → ls[j]? = some l → RowIs w base v l

theorem Rows.nil (w : World) (base : Nat) : Rows w base [] [] := ⟨rfl, fun j v l h => by simp at h⟩
theorem Rows.imp {w w' : World} {base : Nat} {L : List Value} {ls : List (List Nat)} (h : Rows w base L ls) (f : ∀ (v : Value) (l : List Nat), w.ownsRow base 5 1 v l.length (l.map byteV) → w'.ownsRow base 5 1 v l.length (l.map byteV)) : Rows w' base L ls :=
  ⟨h.1, fun j v l hv hl => by
    obtain ⟨h1, h2, h3⟩ := h.2 j v l hv hl
    exact ⟨h1, f v l h2, h3⟩⟩
theorem Rows.snoc {w : World} {base : Nat} {L : List Value} {ls : List (List Nat)} (h : Rows w base L ls) {v : Value} {l : List Nat} (hv : RowIs w base v l) : Rows w base (L ++ [v]) (ls ++ [l]) :=
  ⟨by simp [h.1], fun j u m hu hm => by
    rcases Nat.lt_trichotomy j L.length with q | q | q
    · rw [List.getElem?_append_left q] at hu
      rw [List.getElem?_append_left (by rw [← h.1]; exact q)] at hm
      exact h.2 j u m hu hm
    · subst q
      rw [List.getElem?_append_right (Nat.le_refl _)] at hu
      rw [List.getElem?_append_right (by rw [h.1]; exact Nat.le_refl _), h.1] at hm
      simp at hu hm
      subst hu
      subst hm
      exact hv
    · rw [List.getElem?_eq_none (by simp; omega)] at hu
      cases hu⟩

/-- Two rows of unlike types are two rows. -/
theorem own_apart {w : World} {b b' : Nat} {e e' : TypeId} (hne : e ≠ e') {s s' : Nat} {v v' : Value} {n n' : Nat} {xs xs' : List Value} (h : w.ownsRow b e s v n xs) (h' : w.ownsRow b' e' s' v' n' xs') : v.ownBlock = none ∨ v.ownBlock ≠ v'.ownBlock := by
  rcases h.2 with ⟨rfl, _⟩ | ⟨g, cap, cur, rfl, _, hgb, _⟩
  · exact .inl rfl
  · right
    rcases h'.2 with ⟨rfl, _⟩ | ⟨g', cap', cur', rfl, _, hgb', _⟩
    · simp [Value.ownBlock]
    · intro e
      obtain rfl : g = g' := by simpa [Value.ownBlock] using e
      rw [hgb] at hgb'
      simp at hgb'
      exact hne hgb'.2
/-- .. and a row and a block of another type. -/
theorem own_block {w : World} {b : Nat} {e e' : TypeId} (hne : e ≠ e') {s : Nat} {v : Value} {n : Nat} {xs : List Value} (h : w.ownsRow b e s v n xs) {B : Nat} {cs : Array Value} {f : Nat × Nat} (hB : w.heap[B]? = some (.cells cs e' f)) : v.ownBlock = none ∨ v.ownBlock ≠ some B := by
  rcases h.2 with ⟨rfl, _⟩ | ⟨g, cap, cur, rfl, _, hgb, _⟩
  · exact .inl rfl
  · right
    intro e
    obtain rfl : g = B := by simpa [Value.ownBlock] using e
    rw [hgb] at hB
    simp at hB
    exact hne hB.2.1

theorem Rows.set {w : World} {base : Nat} {L : List Value} {ls : List (List Nat)} (h : Rows w base L ls) (i : Nat) {v : Value} {l : List Nat} (hv : RowIs w base v l) : Rows w base (L.set i v) (ls.set i l) :=
  ⟨by rw [List.length_set, List.length_set, h.1], fun j u m hu hm => by
    rw [List.getElem?_set] at hu hm
    by_cases e : i = j
    · rw [if_pos e] at hu hm
      split at hu
      · split at hm
        · cases hu; cases hm; exact hv
        · cases hm
      · cases hu
    · rw [if_neg e] at hu hm
      exact h.2 j u m hu hm⟩
theorem below_none {w w' : World} (h : Below w.heap.size w w') : w.grownBy w' none := ⟨h.os, h.tape, h.output, h.size, fun i hi _ => h.block i hi⟩
theorem kept_none {w w' : World} (h : w.grownBy w' none) {base : Nat} {e : TypeId} {s : Nat} {v : Value} {n : Nat} {xs : List Value} (ho : w.ownsRow base e s v n xs) : w'.ownsRow base e s v n xs := ho.kept h (by cases h : v.ownBlock <;> simp)

theorem Rows.imp' {w w' : World} {base base' : Nat} {L : List Value} {ls : List (List Nat)} (h : Rows w base L ls) (f : ∀ (v : Value) (l : List Nat), w.ownsRow base 5 1 v l.length (l.map byteV) → w'.ownsRow base' 5 1 v l.length (l.map byteV)) : Rows w' base' L ls :=
  ⟨h.1, fun j v l hv hl => by
    obtain ⟨h1, h2, h3⟩ := h.2 j v l hv hl
    exact ⟨h1, f v l h2, h3⟩⟩
theorem own_none {w : World} {b : Nat} {e : TypeId} {s : Nat} {v : Value} {n : Nat} {xs : List Value} : v.ownBlock = none ∨ v.ownBlock ≠ none := by
  cases h : v.ownBlock <;> simp
theorem Rows.grown {w w' : World} {base : Nat} {L : List Value} {ls : List (List Nat)} (h : Rows w base L ls) (hg : w.grownBy w' Option.none) : Rows w' base L ls :=
  h.imp fun v l ho => ho.kept hg (by cases h : v.ownBlock <;> simp)

theorem own_base {w : World} {b b' : Nat} {e : TypeId} {s : Nat} {v : Value} {n : Nat} {xs : List Value} (hb : b' ≤ b) (h : w.ownsRow b e s v n xs) : w.ownsRow b' e s v n xs := by
  refine ⟨h.1, ?_⟩
  rcases h.2 with h' | ⟨g, cap, cur, h1, h2, h3⟩
  · exact .inl h'
  · exact .inr ⟨g, cap, cur, h1, by omega, h3⟩
/-- Values that are slices which read as these lists. -/
def Reads (w : World) (B : Nat) (L : List Value) (ls : List (List Nat)) : Prop := L.length = ls.length ∧ ∀ (j : Nat) (l : List Nat), ls[j]? = some l → ∃ A c, L[j]? = some (.slice A l.length c) ∧ l.length ≤ c ∧ Bytes w B A l
theorem Reads.below {w w' : World} {B : Nat} {L : List Value} {ls : List (List Nat)} (h : Reads w B L ls) (hb : Below B w w') : Reads w' B L ls := ⟨h.1, fun j l hl => by
  obtain ⟨A, c, h1, h2, h3⟩ := h.2 j l hl
  exact ⟨A, c, h1, h2, h3.below hb⟩⟩
theorem Rows.reads {w : World} {base : Nat} {L : List Value} {ls : List (List Nat)} (h : Rows w base L ls) : Reads w w.heap.size L ls := ⟨h.1, fun j l hl => by
  have hj : j < L.length := by
    rw [h.1]
    exact (List.getElem?_eq_some_iff.1 hl).1
  obtain ⟨⟨A, c, e⟩, h2, h3⟩ := h.2 j _ l (List.getElem?_eq_getElem hj) hl
  rw [e] at h2
  obtain ⟨A', c', e', hc, _⟩ := own_form h2
  injection e' with e1 e2 e3
  exact ⟨A, c, by rw [List.getElem?_eq_getElem hj, e], by omega, own_bytes h2 h3⟩⟩

theorem Reads.more {w : World} {B B' : Nat} {L : List Value} {ls : List (List Nat)} (h : Reads w B L ls) (hB : B ≤ B') : Reads w B' L ls := ⟨h.1, fun j l hl => by
  obtain ⟨A, c, h1, h2, h3⟩ := h.2 j l hl
  exact ⟨A, c, h1, h2, h3.more hB⟩⟩

theorem own_cap {w : World} {base : Nat} {e : TypeId} {size : Nat} {A : Option Addr} {n c : Nat} {xs : List Value} (h : w.ownsRow base e size (.slice A n c) n xs) : n ≤ c := by
  obtain ⟨A', c', e', hc, _⟩ := own_form h
  injection e' with _ _ e3
  omega
theorem Reads.take {w : World} {B : Nat} {L : List Value} {ls : List (List Nat)} (h : Reads w B L ls) (n : Nat) : Reads w B (L.take n) (ls.take n) := ⟨by simp [h.1], fun j l hl => by
  rw [List.getElem?_take] at hl
  split at hl
  · rename_i hj
    obtain ⟨A, c, h1, h2, h3⟩ := h.2 j l hl
    exact ⟨A, c, by rw [List.getElem?_take, if_pos hj]; exact h1, h2, h3⟩
  · cases hl⟩

def RetRows (ls : List (List Nat)) (w : World) (e : Ending) (w' : World) : Prop :=
  ∃ A c L, e = .returned (.slice A ls.length c) ∧ w'.ownsRow w.heap.size 25 1 (.slice A ls.length c) ls.length L ∧ Rows w' w.heap.size L ls ∧ Below w.heap.size w w'
theorem RetRows.is {ls : List (List Nat)} {w : World} {e : Ending} {w' : World} (h : RetRows ls w e w') : ∃ A c L, e = .returned (.slice A ls.length c) ∧ w'.ownsRow w.heap.size 25 1 (.slice A ls.length c) ls.length L ∧ Rows w' w.heap.size L ls ∧ Below w.heap.size w w' ∧ At w' w'.heap.size A L ∧ Reads w' w'.heap.size L ls := by
  obtain ⟨A, c, L, h1, h2, h3, h4⟩ := h
  exact ⟨A, c, L, h1, h2, h3, h4, At.own h2, h3.reads⟩

theorem reads_at {w : World} {B : Nat} {A : Option Addr} {L : List Value} {ls : List (List Nat)} (h1 : At w B A L) (h : Reads w B L ls) {k : Nat} (hk : k < ls.length) :
    ∃ b o A' c', A = some ⟨b, o, none⟩ ∧ b < B ∧ w.cell? ⟨b, o + k, none⟩ = some (.slice A' ls[k].length c') ∧ ls[k].length ≤ c' ∧ Bytes w B A' ls[k] := by
  obtain ⟨A1, c1, e1, hc1, b1⟩ := h.2 k _ (List.getElem?_eq_getElem hk)
  obtain ⟨b, o, e, hb, q⟩ := h1 k (by rw [h.1]; exact hk)
  rw [← List.getElem?_eq_getElem, e1] at q
  exact ⟨b, o, A1, c1, e, hb, q, hc1, b1⟩

theorem replicate_small (n : Nat) : Small (List.replicate n 0) := fun x hx => by rw [(List.mem_replicate.1 hx).2]; omega

end Go.Proofs.Ythbaoljghofkoaa
