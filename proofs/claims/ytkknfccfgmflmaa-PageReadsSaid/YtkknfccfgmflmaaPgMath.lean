/- page: the list of slots as plain numbers. Conditions: none; no program in sight. -/
import Derived.Test.YtkknfccfgmflmaaPgSlots
namespace Go.Proofs.Ytkknfccfgmflmaa
open Go.ChangeShapes Go.WideShapes Go.ChangeAt Go.RowKit
open NumMath
set_option linter.unusedVariables false
set_option linter.unusedSimpArgs false

theorem rd_congr {f g : Nat → Nat} {a n : Nat} (h : ∀ i, a ≤ i → i < a + n → f i = g i) : rd f a n = rd g a n := by
  unfold rd cut
  congr 1
  apply List.map_congr_left
  intro i hi
  rw [List.mem_range] at hi
  exact h _ (by omega) (by omega)
theorem upd_out (f : Nat → Nat) (a : Nat) (l : List Nat) {i : Nat} (h : i < a ∨ a + l.length ≤ i) : upd f a l i = f i := if_neg (by omega)
theorem upd_in (f : Nat → Nat) (a : Nat) (l : List Nat) {i : Nat} (h1 : a ≤ i) (h2 : i < a + l.length) : upd f a l i = l[i - a]'(by omega) := by
  unfold upd
  rw [if_pos ⟨h1, h2⟩, List.getElem?_eq_getElem (by omega)]
  rfl
theorem cut_upd (f : Nat → Nat) (a : Nat) (l : List Nat) : cut (upd f a l) a l.length = l := by
  apply List.ext_getElem
  · rw [cut_length]
  · intro i h1 h2
    simp only [cut, List.getElem_map, List.getElem_range]
    rw [upd_in f a l (by omega) (by omega)]
    congr 1
    omega
theorem wr_out (f : Nat → Nat) (a n v : Nat) {i : Nat} (h : i < a ∨ a + n ≤ i) : wr f a n v i = f i := upd_out f a _ (by rw [putF_length]; exact h)
theorem rd_wr (f : Nat → Nat) (a n v : Nat) (hv : v < 256 ^ n) : rd (wr f a n v) a n = v := by
  unfold rd wr
  have := cut_upd f a (putF n v)
  rw [putF_length] at this
  rw [this, getL_put]
  exact Nat.mod_eq_of_lt hv
theorem rd_wr_out (f : Nat → Nat) (a n v : Nat) {b m : Nat} (h : b + m ≤ a ∨ a + n ≤ b) : rd (wr f a n v) b m = rd f b m :=
  rd_congr fun i h1 h2 => wr_out f a n v (by omega)
theorem cut_congr {f g : Nat → Nat} {a n : Nat} (h : ∀ i, a ≤ i → i < a + n → f i = g i) : cut f a n = cut g a n := by
  unfold cut
  apply List.map_congr_left
  intro i hi
  rw [List.mem_range] at hi
  exact h _ (by omega) (by omega)
theorem lst_out (f : Nat → Nat) (s a n : Nat) {i : Nat} (h : i < 16 + 4 * s ∨ 20 + 4 * s ≤ i) : lst f s a n i = f i := by
  unfold lst
  rw [wr_out _ _ _ _ (by omega), wr_out _ _ _ _ (by omega)]
theorem lst_at (f : Nat → Nat) (s a n : Nat) (ha : a < 65536) (hn : n < 65536) : atN (lst f s a n) s = a ∧ lenN (lst f s a n) s = n := by
  constructor
  · unfold atN lst
    rw [rd_wr_out _ _ _ _ (by omega), rd_wr _ _ _ _ (by omega)]
  · unfold lenN lst
    exact rd_wr _ _ _ _ (by omega)
theorem lst_other (f : Nat → Nat) (s a n : Nat) {s' : Nat} (h : s' ≠ s) : atN (lst f s a n) s' = atN f s' ∧ lenN (lst f s a n) s' = lenN f s' :=
  ⟨rd_congr fun i h1 h2 => lst_out f s a n (by omega), rd_congr fun i h1 h2 => lst_out f s a n (by omega)⟩
theorem lst_cnt (f : Nat → Nat) (s a n : Nat) : cnt (lst f s a n) = cnt f := rd_congr fun i h1 h2 => lst_out f s a n (by omega)
/-- the same head and list -/
def SameList (f g : Nat → Nat) : Prop := ∀ i, 12 ≤ i → i < 16 + 4 * cnt f → i < 14 ∨ 16 ≤ i → g i = f i
theorem SameList.cnt {f g : Nat → Nat} (h : SameList f g) : cnt g = cnt f := rd_congr fun i h1 h2 => h i (by omega) (by omega) (by omega)
theorem SameList.ent {f g : Nat → Nat} (h : SameList f g) {s : Nat} (hs : s < Proofs.Ytkknfccfgmflmaa.cnt f) : atN g s = atN f s ∧ lenN g s = lenN f s :=
  ⟨rd_congr fun i h1 h2 => h i (by omega) (by omega) (by omega), rd_congr fun i h1 h2 => h i (by omega) (by omega) (by omega)⟩
theorem SameList.ok {f g : Nat → Nat} (h : SameList f g) (ho : Ok f) : Ok g := by
  refine ⟨by rw [h.cnt]; exact ho.c40, fun s hs => ?_⟩
  rw [h.cnt] at hs ⊢
  rw [(h.ent hs).1, (h.ent hs).2]
  exact ho.ent s hs
theorem SameList.upd {f : Nat → Nat} (a : Nat) (l : List Nat) (ha : 16 + 4 * Proofs.Ytkknfccfgmflmaa.cnt f ≤ a) : SameList f (upd f a l) := fun i h1 h2 h3 => upd_out f a l (by omega)
theorem SameList.trans {f g k : Nat → Nat} (h : SameList f g) (h2 : SameList g k) : SameList f k := fun i a b c => (h2 i a (by rw [h.cnt]; exact b) c).trans (h i a b c)
theorem Ok.lst0 {f : Nat → Nat} (h : Ok f) (s : Nat) : Ok (lst f s 0 0) := by
  refine ⟨by rw [lst_cnt]; exact h.c40, fun s' hs => ?_⟩
  rw [lst_cnt] at hs ⊢
  by_cases e : s' = s
  · subst e
    have := lst_at f s' 0 0 (by omega) (by omega)
    exact .inl ⟨this.2, this.1⟩
  · rw [(lst_other f s 0 0 e).1, (lst_other f s 0 0 e).2]
    exact h.ent s' hs
theorem slotsTo_congr {f g : Nat → Nat} {k : Nat} (h : ∀ s, s < k → lenN g s = lenN f s) : slotsTo g k = slotsTo f k := by
  unfold slotsTo
  apply List.filter_congr
  intro s hs
  rw [h s (List.mem_range.1 hs)]
theorem SameList.slots {f g : Nat → Nat} (h : SameList f g) : slotsF g = slotsF f := by
  unfold slotsF
  rw [h.cnt]
  exact slotsTo_congr fun s hs => (h.ent hs).2
end Go.Proofs.Ytkknfccfgmflmaa
