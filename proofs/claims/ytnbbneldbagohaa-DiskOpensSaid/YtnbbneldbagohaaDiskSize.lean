/- disk: Size. Conditions: the device lies there. -/
import Derived.Test.YtnbbneldbagohaaDiskHalt
namespace Go.Proofs.Ytnbbneldbagohaa
open Go.ChangeShapes Go.WideShapes Go.ChangeAt Go.RowKit
set_option linter.unusedVariables false
set_option linter.unusedSimpArgs false

def DevP.size (D : DevP) (n : Nat) : Nat := if n < 2 then (D.f n).length else 0
section
variable {D : DevP} {w : World} {F : Nat → Prop} {gp : Nat} {s : Nat → Value} {lv : Value} {X : Nat → List Value}
theorem file_form (h : DevAt D w F gp s lv X) (n : Nat) : ∃ A c, (if n < 2 then s n else Value.slice none 0 0) = .slice A (D.size n) c := by
  unfold DevP.size
  by_cases hn2 : n < 2
  · rw [if_pos hn2, if_pos hn2]
    obtain ⟨A, c, e, -, -⟩ := own_form (h.file n hn2).1
    exact ⟨A, c, e⟩
  · rw [if_neg hn2, if_neg hn2]
    exact ⟨none, 0, rfl⟩
theorem size_any (h : DevAt D w F gp s lv X) (n : Nat) (hn : n < 256) :
    Calls Try.prog 27 #[.pointer (some ⟨gp, 0, none⟩), .int .u8 n] w fun e w' => e = .returned (.int .i64 (D.size n : Nat)) ∧ w = w' := by
  have hf := file_any h n hn
  obtain ⟨A, c, e⟩ := file_form h n
  rw [e] at hf
  generalize D.size n = m at *
  clear h e
  go_enter Try.func27, Try.ntmps27
  go_wp2_with (go_at_call 38; refine hf.mono ?_; rintro e w1 ⟨rfl, rfl⟩)
  go_ret
  exact ⟨rfl, rfl⟩
end
end Go.Proofs.Ytnbbneldbagohaa
