/- disk: Halt. Conditions: as stated. -/
import Derived.Test.YtnbbneldbagohaaDiskNew
namespace Go.Proofs.Ytnbbneldbagohaa
open Go.ChangeShapes Go.WideShapes Go.ChangeAt Go.RowKit
set_option linter.unusedVariables false
set_option linter.unusedSimpArgs false

theorem halt_any (gp : Nat) (n : Int) (v : Value) (w : World) (c2 : w.cell? ⟨gp, 2, none⟩ = some v) (f2 : w.frozen? ⟨gp, 2, none⟩ = false) (hg : gp < w.heap.size) (hv : v.oneCell' = true) :
    Calls Try.prog 16 #[.pointer (some ⟨gp, 0, none⟩), .int .i64 n] w fun e w' => e = .returned (.tuple #[]) ∧ w' = (w.setCell ⟨gp, 2, none⟩ (.pointer (some ⟨w.heap.size, 0, none⟩))).alloc (.cells #[.int .i64 (max n 0)] 3) := by
  have hne : gp ≠ w.heap.size := by omega
  have hne2 : w.heap.size ≠ gp := by omega
  by_cases h0 : n < 0
  · have e0 : max n 0 = 0 := by omega
    rw [e0]
    have e1 : ¬ (0 ≤ n) := by omega
    clear e0
    go_enter Try.func16, Try.ntmps16
    go_wp2
    go_end0
    exact ⟨rfl, rfl⟩
  · have e0 : max n 0 = n := by omega
    rw [e0]
    have e1 : 0 ≤ n := by omega
    clear e0
    go_enter Try.func16, Try.ntmps16
    go_wp2
    go_end0
    exact ⟨rfl, rfl⟩
end Go.Proofs.Ytnbbneldbagohaa
