/-
  No cell of these rows narrows 'for every input' (looked for: loops, veiled, ifaces, maps, wideKeys, modest, calm, conditions, laid).
  DERIVED. THE GIVEN ROWS OF THIS SEAT. 4 by the template 'for every input the law returns true; each argument reads behind the call as it read before'; 0 by the template 'total and deterministic' (their statements: YtciidogbojbkiaaTotals.lean).
  GIVEN WITH THE SEED: the statements are not yours to turn. If you find one false, say at which input.
  Laid BY PROGRAM, IN A SANDBOX (cutbox-rows.mjs): the forced cells as the released guide's own fill.sh prints them over the translation e858a39c1e012c67… (all of the seat's roots in one cut). By AI agents, Wed Nov 11 2026. No macro, syntax, notation, axiom, sorry.
-/
import Derived.Test.YtciidogbojbkiaaChecked
import GoSem.Claim
import GoSem.ClaimJoined
import GoSem.ClaimMapViews
import Derived.JoinedTies
import Derived.KernelRfl
namespace Go.Proofs.Ytciidogbojbkiaa
/- THE CELL 'sum', in the pinned program and in every row, IS THE sha256 OF THE DUMP (.gsa) THAT YtciidogbojbkiaaProg.lean LOADS. Nothing in Lean hashes anything: it is a label: what it is worth is what the hold of that sum in a sandbox is worth. -/
noncomputable def Try.pinned : Pinned := { name := "ytciidogbojbkiaa", sum := "e858a39c1e012c673e7facd58ca1fc0a8894becf7e84f11a51ccc2b0c0675c83", checked := Try.checked }
namespace Rows
def none {H : Type} : Left H := { results := [], args := [] }

/-- 'manciplelaw23.CodecAsks': WHATEVER THE INPUT: true; the input reads as it did. -/
def codecAsksSpec : ChangeSpec := { name := "codecAsks", fn := fun _ => fun
  | [d1, d2] => { results := [.lit (.bool true)], args := [d1, d2] }
  | _ => none }
def codecAsksRow : OpenClaim := { program := "ytciidogbojbkiaa", sum := "e858a39c1e012c673e7facd58ca1fc0a8894becf7e84f11a51ccc2b0c0675c83", func := "manciple/manciplelaw23.CodecAsks", spec := "codecAsks", apart := false }
def CodecAsksSaid : Prop := codecAsksRow.holds Try.pinned (OpenSpec.ofChange codecAsksSpec)

/-- ITS FALSE NEIGHBOUR: 'it returns false'. Refute it at one input. -/
def codecAsksWrong : ChangeSpec := { name := "codecAsks", fn := fun _ => fun
  | [d1, d2] => { results := [.lit (.bool false)], args := [d1, d2] }
  | _ => none }
def CodecAsksWrongFalsely : Prop := codecAsksRow.holds Try.pinned (OpenSpec.ofChange codecAsksWrong)

/-- 'manciplelaw23.CodecOnly': WHATEVER THE INPUT: true; the input reads as it did. -/
def codecOnlySpec : ChangeSpec := { name := "codecOnly", fn := fun _ => fun
  | [d1, d2] => { results := [.lit (.bool true)], args := [d1, d2] }
  | _ => none }
def codecOnlyRow : OpenClaim := { program := "ytciidogbojbkiaa", sum := "e858a39c1e012c673e7facd58ca1fc0a8894becf7e84f11a51ccc2b0c0675c83", func := "manciple/manciplelaw23.CodecOnly", spec := "codecOnly", apart := false }
def CodecOnlySaid : Prop := codecOnlyRow.holds Try.pinned (OpenSpec.ofChange codecOnlySpec)

/-- ITS FALSE NEIGHBOUR: 'it returns false'. Refute it at one input. -/
def codecOnlyWrong : ChangeSpec := { name := "codecOnly", fn := fun _ => fun
  | [d1, d2] => { results := [.lit (.bool false)], args := [d1, d2] }
  | _ => none }
def CodecOnlyWrongFalsely : Prop := codecOnlyRow.holds Try.pinned (OpenSpec.ofChange codecOnlyWrong)

/-- 'manciplelaw23.CodecTells': WHATEVER THE INPUT: true; the input reads as it did. -/
def codecTellsSpec : ChangeSpec := { name := "codecTells", fn := fun _ => fun
  | [d1, d2] => { results := [.lit (.bool true)], args := [d1, d2] }
  | _ => none }
def codecTellsRow : OpenClaim := { program := "ytciidogbojbkiaa", sum := "e858a39c1e012c673e7facd58ca1fc0a8894becf7e84f11a51ccc2b0c0675c83", func := "manciple/manciplelaw23.CodecTells", spec := "codecTells", apart := false }
def CodecTellsSaid : Prop := codecTellsRow.holds Try.pinned (OpenSpec.ofChange codecTellsSpec)

/-- ITS FALSE NEIGHBOUR: 'it returns false'. Refute it at one input. -/
def codecTellsWrong : ChangeSpec := { name := "codecTells", fn := fun _ => fun
  | [d1, d2] => { results := [.lit (.bool false)], args := [d1, d2] }
  | _ => none }
def CodecTellsWrongFalsely : Prop := codecTellsRow.holds Try.pinned (OpenSpec.ofChange codecTellsWrong)

/-- 'manciplelaw23.CodecBack': WHATEVER THE INPUT: true; the input reads as it did. -/
def codecBackSpec : ChangeSpec := { name := "codecBack", fn := fun _ => fun
  | [d1, d2, d3, d4] => { results := [.lit (.bool true)], args := [d1, d2, d3, d4] }
  | _ => none }
def codecBackRow : OpenClaim := { program := "ytciidogbojbkiaa", sum := "e858a39c1e012c673e7facd58ca1fc0a8894becf7e84f11a51ccc2b0c0675c83", func := "manciple/manciplelaw23.CodecBack", spec := "codecBack", apart := false }
def CodecBackSaid : Prop := codecBackRow.holds Try.pinned (OpenSpec.ofChange codecBackSpec)

/-- ITS FALSE NEIGHBOUR: 'it returns false'. Refute it at one input. -/
def codecBackWrong : ChangeSpec := { name := "codecBack", fn := fun _ => fun
  | [d1, d2, d3, d4] => { results := [.lit (.bool false)], args := [d1, d2, d3, d4] }
  | _ => none }
def CodecBackWrongFalsely : Prop := codecBackRow.holds Try.pinned (OpenSpec.ofChange codecBackWrong)

/- THE SECOND FORM. 'bulk': how many values and letters a reading holds, each counted each time it is reached (what is shared counts as often as it is met; a slice's spare places count too). A statement '..UptoSaid' is the law's where the arguments, and the package variables that the reading takes, are together of bulk at most 1048576: NARROWER than '..Said'. Prove '..Said' where nothing that the law and all that it calls make is longer than what came in: it says more and counts as full. Else prove '..UptoSaid'. A law counts once. -/
mutual
def uptoBulk {H : Type} : DataW H → Nat
  | .lit (.string bytes) => bytes.length + 1
  | .lit _ => 1
  | .nil => 1
  | .ptr d => uptoBulk d + 1
  | .slice elems spare => uptoBulkAll elems + uptoBulkAll spare + 1
  | .agg parts => uptoBulkAll parts + 1
  | .iface _ d => uptoBulk d + 1
  | .map entries => uptoBulkEntries entries + 1
  | .held _ => 1
def uptoBulkAll {H : Type} : List (DataW H) → Nat
  | [] => 0
  | d :: r => uptoBulk d + uptoBulkAll r
def uptoBulkEntries {H : Type} : List (Lit × DataW H) → Nat
  | [] => 0
  | x :: r => uptoBulkEntry x + uptoBulkEntries r
def uptoBulkEntry {H : Type} : Lit × DataW H → Nat
  | (.string bytes, d) => bytes.length + uptoBulk d + 1
  | (_, d) => uptoBulk d + 1
 end
def uptoSmall : (H : Type) → List (DataW H) → Bool := fun _ ds => decide (uptoBulkAll ds ≤ 1048576)
def OpenSpec.upto (s : _root_.Go.ChangeSpec) : _root_.Go.OpenSpec := { _root_.Go.OpenSpec.ofChange s with cond := some uptoSmall }

/-- 'manciplelaw23.CodecAsks', WHERE WHAT IT READS IS OF BULK AT MOST 1048576: true; the input reads as it did. -/
def codecAsksUptoRow : OpenClaim := { program := "ytciidogbojbkiaa", sum := "e858a39c1e012c673e7facd58ca1fc0a8894becf7e84f11a51ccc2b0c0675c83", func := "manciple/manciplelaw23.CodecAsks", spec := "codecAsks", apart := false, narrowed := true }
def CodecAsksUptoSaid : Prop := codecAsksUptoRow.holds Try.pinned (OpenSpec.upto codecAsksSpec)

/-- 'manciplelaw23.CodecOnly', WHERE WHAT IT READS IS OF BULK AT MOST 1048576: true; the input reads as it did. -/
def codecOnlyUptoRow : OpenClaim := { program := "ytciidogbojbkiaa", sum := "e858a39c1e012c673e7facd58ca1fc0a8894becf7e84f11a51ccc2b0c0675c83", func := "manciple/manciplelaw23.CodecOnly", spec := "codecOnly", apart := false, narrowed := true }
def CodecOnlyUptoSaid : Prop := codecOnlyUptoRow.holds Try.pinned (OpenSpec.upto codecOnlySpec)

/-- 'manciplelaw23.CodecTells', WHERE WHAT IT READS IS OF BULK AT MOST 1048576: true; the input reads as it did. -/
def codecTellsUptoRow : OpenClaim := { program := "ytciidogbojbkiaa", sum := "e858a39c1e012c673e7facd58ca1fc0a8894becf7e84f11a51ccc2b0c0675c83", func := "manciple/manciplelaw23.CodecTells", spec := "codecTells", apart := false, narrowed := true }
def CodecTellsUptoSaid : Prop := codecTellsUptoRow.holds Try.pinned (OpenSpec.upto codecTellsSpec)

/-- 'manciplelaw23.CodecBack', WHERE WHAT IT READS IS OF BULK AT MOST 1048576: true; the input reads as it did. -/
def codecBackUptoRow : OpenClaim := { program := "ytciidogbojbkiaa", sum := "e858a39c1e012c673e7facd58ca1fc0a8894becf7e84f11a51ccc2b0c0675c83", func := "manciple/manciplelaw23.CodecBack", spec := "codecBack", apart := false, narrowed := true }
def CodecBackUptoSaid : Prop := codecBackUptoRow.holds Try.pinned (OpenSpec.upto codecBackSpec)

end Rows
end Go.Proofs.Ytciidogbojbkiaa
