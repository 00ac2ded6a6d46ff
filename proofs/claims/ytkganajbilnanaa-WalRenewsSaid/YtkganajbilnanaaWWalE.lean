/- bytes.Equal. Conditions: the bytes lie there. -/
import Derived.Test.YtkganajbilnanaaWWalS
namespace Go.Proofs.Ytkganajbilnanaa
open Go.ChangeShapes Go.WideShapes Go.ChangeAt Go.RowKit
open NumMath
set_option linter.unusedVariables false
set_option linter.unusedSimpArgs false
set_option maxRecDepth 20000

theorem equal_any (A A' : Option Addr) (c c' : Nat) (l m : List Nat) (B : Nat) (w : World) (hl : Bytes w B A l) (hm : Bytes w B A' m) :
    Calls Try.prog 62 #[.slice A l.length c, .slice A' m.length c'] w fun e w' => e = .returned (.bool (decide (l = m))) ∧ w = w' := by
  have h1 := run_bytes_str (P := Try.prog) hl 26 9 5 Try.underlying26 Try.underlying5 Try.underlying9 c
  have h2 := run_bytes_str (P := Try.prog) hm 26 9 5 Try.underlying26 Try.underlying5 Try.underlying9 c'
  have h3 := strB_beq hl.2 hm.2
  go_enter Try.func62, Try.ntmps62
  go_wp2
  go_ret
  exact ⟨rfl, rfl⟩
end Go.Proofs.Ytkganajbilnanaa
