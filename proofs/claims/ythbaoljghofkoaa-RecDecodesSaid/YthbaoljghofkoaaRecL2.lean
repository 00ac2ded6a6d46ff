/- rec's law: what is heavy. Conditions: none. -/
import Derived.Test.YthbaoljghofkoaaRecSm
import Derived.Test.YthbaoljghofkoaaRecOp
import Derived.Test.YthbaoljghofkoaaRecH
namespace Go.Proofs.Ythbaoljghofkoaa
open Go.ChangeShapes Go.WideShapes Go.ChangeAt Go.RowKit
open NumMath
set_option linter.unusedVariables false
set_option linter.unusedSimpArgs false
set_option maxRecDepth 20000

def heavyB (r : RecP) : Bool := decide (100 < r.txns.length) || (decide (100 < r.pages.length) || (decide (200 < r.chg.before.length) || decide (200 < r.chg.after.length)))
theorem heavyB_not {r : RecP} (h : heavyB r = false) : r.txns.length ≤ 100 ∧ r.pages.length ≤ 100 ∧ r.chg.before.length ≤ 200 ∧ r.chg.after.length ≤ 200 := by
  unfold heavyB at h
  simp only [Bool.or_eq_false_iff, decide_eq_false_iff_not] at h
  omega
set_option maxHeartbeats 4000000 in
theorem heavy_any (r : RecP) (m : RecMm) (w : World) :
    Calls Try.prog 9 #[.agg (recA r m)] w fun e w' => e = .returned (.bool (heavyB r)) ∧ Below w.heap.size w w' := by
  have kb := Blk.new w 31 (recA r m)
  have hb := below_alloc w (.cells (recA r m) 31)
  go_enter Try.func9, Try.ntmps9
  go_upto_region 1 with fail
  generalize World.alloc w _ = w1 at *
  have HB := Lib.hid hb
  obtain ⟨-, -, -, -, -, -, -, -, q8, q9, q10, q11⟩ := RecBox.of kb
  have HV : Hid (heavyB r = (decide (100 < r.txns.length) || (decide (100 < r.pages.length) || (decide (200 < r.chg.before.length) || decide (200 < r.chg.after.length))))) := Lib.hid rfl
  clear kb hb
  generalize r.txns.length = a at *
  generalize r.pages.length = b at *
  generalize r.chg.before.length = c at *
  generalize r.chg.after.length = d at *
  rcases Nat.lt_or_ge 100 a with z1 | z1
  · have t1 : decide ((100 : Int) < (a : Int)) = true := by rw [decide_eq_true_iff]; omega
    have HE : Hid (heavyB r = true) := Lib.hid (by rw [HV.out, decide_eq_true z1]; rfl)
    clear z1 HV
    go_wp2
    go_ret
    exact ⟨by rw [HE.out]; rfl, HB.out⟩
  have t1 : decide ((100 : Int) < (a : Int)) = false := by rw [decide_eq_false_iff_not]; omega
  rcases Nat.lt_or_ge 100 b with z2 | z2
  · have t2 : decide ((100 : Int) < (b : Int)) = true := by rw [decide_eq_true_iff]; omega
    have HE : Hid (heavyB r = true) := Lib.hid (by rw [HV.out, decide_eq_true z2, Bool.true_or, Bool.or_true])
    clear z1 z2 HV
    go_wp2
    go_ret
    exact ⟨by rw [HE.out]; rfl, HB.out⟩
  have t2 : decide ((100 : Int) < (b : Int)) = false := by rw [decide_eq_false_iff_not]; omega
  rcases Nat.lt_or_ge 200 c with z3 | z3
  · have t3 : decide ((200 : Int) < (c : Int)) = true := by rw [decide_eq_true_iff]; omega
    have HE : Hid (heavyB r = true) := Lib.hid (by rw [HV.out, decide_eq_true z3, Bool.true_or, Bool.or_true, Bool.or_true])
    clear z1 z2 z3 HV
    go_wp2
    go_ret
    exact ⟨by rw [HE.out]; rfl, HB.out⟩
  have t3 : decide ((200 : Int) < (c : Int)) = false := by rw [decide_eq_false_iff_not]; omega
  rcases Nat.lt_or_ge 200 d with z4 | z4
  · have t4 : decide ((200 : Int) < (d : Int)) = true := by rw [decide_eq_true_iff]; omega
    have HE : Hid (heavyB r = true) := Lib.hid (by rw [HV.out, decide_eq_true z4, Bool.or_true, Bool.or_true, Bool.or_true])
    clear z1 z2 z3 z4 HV
    go_wp2
    go_ret
    exact ⟨by rw [HE.out]; rfl, HB.out⟩
  have t4 : decide ((200 : Int) < (d : Int)) = false := by rw [decide_eq_false_iff_not]; omega
  have HE : Hid (heavyB r = false) := Lib.hid (by rw [HV.out, decide_eq_false (by omega), decide_eq_false (by omega), decide_eq_false (by omega), decide_eq_false (by omega)]; rfl)
  clear z1 z2 z3 z4 HV
  go_wp2
  go_ret
  exact ⟨by rw [HE.out]; rfl, HB.out⟩
end Go.Proofs.Ythbaoljghofkoaa
