/- disk: Waits. Conditions: the device lies there. -/
import Derived.Test.YtnbbneldbagohaaDiskSize
namespace Go.Proofs.Ytnbbneldbagohaa
open Go.ChangeShapes Go.WideShapes Go.ChangeAt Go.RowKit
set_option linter.unusedVariables false
set_option linter.unusedSimpArgs false

/-- is there such a sector? -/
def DevP.has (D : DevP) (n : Nat) (i : Int) : Prop := n < 2 ∧ 0 ≤ i ∧ i < ((D.f n).length : Int)
section
variable {D : DevP} {w : World} {F : Nat → Prop} {gp : Nat} {s : Nat → Value} {lv : Value} {X : Nat → List Value}
/-- a sector, where it lies -/
theorem sector_at (h : DevAt D w F gp s lv X) {n : Nat} (hn : n < 2) {k : Nat} (hk : k < (D.f n).length) :
    ∃ g c lv wv, s n = .slice (some ⟨g, 0, none⟩) (D.f n).length c ∧ w.cell? ⟨g, 2 * k, none⟩ = some lv ∧ w.cell? ⟨g, 2 * k + 1, none⟩ = some wv ∧ Txt w F lv (D.f n)[k].last ∧ IsWaits w F wv (D.f n)[k].waits ∧ F g ∧ g < w.heap.size ∧ (X n)[2 * k]? = some lv ∧ (X n)[2 * k + 1]? = some wv := by
  obtain ⟨ho, hF, hs⟩ := h.file n hn
  obtain ⟨lv, wv, e1, e2, e3, e4⟩ := hs k _ (List.getElem?_eq_getElem hk)
  obtain ⟨A, c, e, -, -⟩ := own_form ho
  rw [e] at ho hF
  obtain ⟨g, rfl, hg, hg'⟩ := own_pos ho (by omega)
  exact ⟨g, c, lv, wv, e, (ho.cellAt _ (by omega)).trans e1, (ho.cellAt _ (by omega)).trans e2, e3, e4, hF g rfl, hg', e1, e2⟩
theorem waits_none (h : DevAt D w F gp s lv X) (n : Nat) (hn : n < 256) (i : Int) (hi : ¬ D.has n i) :
    Calls Try.prog 22 #[.pointer (some ⟨gp, 0, none⟩), .int .u8 n, .int .i64 i] w fun e w' => e = .returned (.int .i64 0) ∧ w = w' := by
  have ha := at_none h n hn i hi
  clear h
  go_enter Try.func22, Try.ntmps22
  go_wp2_with (go_at_call 32; refine ha.mono ?_; rintro e w1 ⟨rfl, rfl⟩)
  go_ret
  exact ⟨rfl, rfl⟩
theorem waits_some (h : DevAt D w F gp s lv X) (n : Nat) (hn : n < 2) (k : Nat) (hk : k < (D.f n).length) (hL : (D.f n).length ≤ 4096) :
    Calls Try.prog 22 #[.pointer (some ⟨gp, 0, none⟩), .int .u8 n, .int .i64 k] w fun e w' => e = .returned (.int .i64 ((D.f n)[k].waits.length : Nat)) ∧ w = w' := by
  obtain ⟨g, c, lv', wv, es, q0, q1, ht, hw, -⟩ := sector_at h hn hk
  have ha := at_some h n hn k hk hL es
  obtain ⟨L, ho, -, -⟩ := hw
  obtain ⟨A, c2, rfl, -, -⟩ := own_form ho
  generalize (D.f n)[k].waits.length = m at *
  clear h ho ht
  go_enter Try.func22, Try.ntmps22
  go_wp2_with (go_at_call 32; refine ha.mono ?_; rintro e w1 ⟨rfl, rfl⟩)
  go_ret
  exact ⟨rfl, rfl⟩
end
end Go.Proofs.Ytnbbneldbagohaa
