/- The law DiskParts, by its arguments. Conditions: none. -/
import Derived.Test.YtnbbneldbagohaaDiskArgs
import Derived.Test.YtnbbneldbagohaaDiskPartsW
namespace Go.Proofs.Ytnbbneldbagohaa
open Go.ChangeShapes Go.WideShapes Go.RowKit
theorem diskParts_walk (v0 : Value) (v1 : Value) (w : World) (w0 : IsBlocks w v0) (w1 : IsFate w v1) :
    Calls Try.prog 3 #[v0, v1] w fun e w' => e = .returned (.bool true) ∧ Below w.heap.size w w' := by
  obtain ⟨A, c, L, ls, rfl, -, -, h1, h2⟩ := w0
  obtain ⟨x, rfl, hx⟩ := w1
  exact parts_any A c L ls w h1 h2 x hx
end Go.Proofs.Ytnbbneldbagohaa
