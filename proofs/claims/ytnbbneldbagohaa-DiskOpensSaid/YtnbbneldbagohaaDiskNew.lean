/- disk: newest, goes, Halted, Halt. Conditions: as stated. -/
import Derived.Test.YtnbbneldbagohaaDiskAt
import Derived.Test.YtnbbneldbagohaaClone
namespace Go.Proofs.Ytnbbneldbagohaa
open Go.ChangeShapes Go.WideShapes Go.ChangeAt Go.RowKit
set_option linter.unusedVariables false
set_option linter.unusedSimpArgs false

theorem newest_none (g o : Nat) (lv : Value) (Aw : Option Addr) (cw : Nat) (w : World) (c0 : w.cell? ⟨g, o, none⟩ = some lv) (c1 : w.cell? ⟨g, o + 1, none⟩ = some (.slice Aw 0 cw)) :
    Calls Try.prog 39 #[.pointer (some ⟨g, o, none⟩)] w fun e w' => e = .returned lv ∧ w = w' := by
  go_enter Try.func39, Try.ntmps39
  go_wp2
  go_ret
  exact ⟨rfl, rfl⟩
theorem newest_some (g o b2 o2 : Nat) (u : Value) (m cw : Nat) (w : World) (hm : m < 100000) (c1 : w.cell? ⟨g, o + 1, none⟩ = some (.slice (some ⟨b2, o2, none⟩) (m + 1) cw)) (c2 : w.cell? ⟨b2, o2 + m, none⟩ = some u) (hu : u.oneCell' = true) :
    Calls Try.prog 39 #[.pointer (some ⟨g, o, none⟩)] w fun e w' => e = .returned u ∧ w = w' := by
  have e1 : decide ((0 : Int) < ((m + 1 : Nat) : Int)) = true := by rw [decide_eq_true_iff]; omega
  have e2 : (((m + 1 : Nat) : Int)) - 1 = (m : Int) := by omega
  have e3 : (0 : Int) ≤ (m : Int) := by omega
  have e4 : (m : Int) < ((m + 1 : Nat) : Int) := by omega
  go_enter Try.func39, Try.ntmps39
  go_wp2
  go_ret
  exact ⟨rfl, rfl⟩
theorem goes_all (gp : Nat) (w : World) (c2 : w.cell? ⟨gp, 2, none⟩ = some (.pointer none)) :
    Calls Try.prog 33 #[.pointer (some ⟨gp, 0, none⟩)] w fun e w' => e = .returned (.bool true) ∧ w = w' := by
  go_enter Try.func33, Try.ntmps33
  go_wp2
  go_ret
  exact ⟨rfl, rfl⟩
theorem goes_zero (gp gl : Nat) (v : Value) (w : World) (c2 : w.cell? ⟨gp, 2, none⟩ = some (.pointer (some ⟨gl, 0, none⟩))) (c3 : w.cell? ⟨gp, 3, none⟩ = some v) (f3 : w.frozen? ⟨gp, 3, none⟩ = false) (cl : w.cell? ⟨gl, 0, none⟩ = some (.int .i64 0)) :
    Calls Try.prog 33 #[.pointer (some ⟨gp, 0, none⟩)] w fun e w' => e = .returned (.bool false) ∧ w' = w.setCell ⟨gp, 3, none⟩ (.bool true) := by
  go_enter Try.func33, Try.ntmps33
  go_wp2
  go_ret
  exact ⟨rfl, rfl⟩
theorem goes_more (gp gl n : Nat) (hn : n + 1 < 9223372036854775808) (w : World) (c2 : w.cell? ⟨gp, 2, none⟩ = some (.pointer (some ⟨gl, 0, none⟩))) (cl : w.cell? ⟨gl, 0, none⟩ = some (.int .i64 ((n + 1 : Nat) : Int))) (fl : w.frozen? ⟨gl, 0, none⟩ = false) :
    Calls Try.prog 33 #[.pointer (some ⟨gp, 0, none⟩)] w fun e w' => e = .returned (.bool true) ∧ w' = w.setCell ⟨gl, 0, none⟩ (.int .i64 (n : Int)) := by
  have e1 : (((n + 1 : Nat) : Int) == 0) = false := by rw [beq_eq_false_iff_ne]; omega
  obtain ⟨m, hm⟩ : ∃ m : Nat, n + 1 = m := ⟨_, rfl⟩
  rw [hm] at cl e1
  have e2 : (m : Int) - 1 = (n : Int) := by omega
  have e3 : IntKind.i64.wrap (n : Int) = (n : Int) := by rw [IntKind.wrap_i64]; omega
  clear hm
  go_enter Try.func33, Try.ntmps33
  go_wp2
  go_ret
  exact ⟨rfl, rfl⟩
theorem halted_any (gp : Nat) (h : Bool) (w : World) (c3 : w.cell? ⟨gp, 3, none⟩ = some (.bool h)) :
    Calls Try.prog 18 #[.pointer (some ⟨gp, 0, none⟩)] w fun e w' => e = .returned (.bool h) ∧ w = w' := by
  go_enter Try.func18, Try.ntmps18
  go_wp2
  go_ret
  exact ⟨rfl, rfl⟩
end Go.Proofs.Ytnbbneldbagohaa
