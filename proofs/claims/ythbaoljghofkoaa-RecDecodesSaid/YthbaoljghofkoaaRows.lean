/-
  No cell of these rows narrows 'for every input' (looked for: loops, veiled, ifaces, maps, wideKeys, modest, calm, conditions, laid).
  DERIVED. THE GIVEN ROWS OF THIS SEAT. 6 by the template 'for every input the law returns true; each argument reads behind the call as it read before'; 0 by the template 'total and deterministic' (their statements: YthbaoljghofkoaaTotals.lean).
  GIVEN WITH THE SEED: the statements are not yours to turn. If you find one false, say at which input.
  Laid BY PROGRAM, IN A SANDBOX (cutbox-rows.mjs): the forced cells as the released guide's own fill.sh prints them over the translation 03834a3f4b59846f… (all of the seat's roots in one cut). By AI agents, Wed Nov 11 2026. No macro, syntax, notation, axiom, sorry.
-/
import Derived.Test.YthbaoljghofkoaaChecked
import GoSem.Claim
import GoSem.ClaimJoined
import GoSem.ClaimMapViews
import Derived.JoinedTies
import Derived.KernelRfl
namespace Go.Proofs.Ythbaoljghofkoaa
/- THE CELL 'sum', in the pinned program and in every row, IS THE sha256 OF THE DUMP (.gsa) THAT YthbaoljghofkoaaProg.lean LOADS. Nothing in Lean hashes anything: it is a label: what it is worth is what the hold of that sum in a sandbox is worth. -/
noncomputable def Try.pinned : Pinned := { name := "ythbaoljghofkoaa", sum := "03834a3f4b59846f79352b18c8920cdbde77072c6359ccafaac6e0fd5586ec9d", checked := Try.checked }
namespace Rows
def none {H : Type} : Left H := { results := [], args := [] }

/-- 'manciplelaw06.RecEncodes': WHATEVER THE INPUT: true; the input reads as it did. -/
def recEncodesSpec : ChangeSpec := { name := "recEncodes", fn := fun _ => fun
  | [d] => { results := [.lit (.bool true)], args := [d] }
  | _ => none }
def recEncodesRow : OpenClaim := { program := "ythbaoljghofkoaa", sum := "03834a3f4b59846f79352b18c8920cdbde77072c6359ccafaac6e0fd5586ec9d", func := "manciple/manciplelaw06.RecEncodes", spec := "recEncodes", unfollowed := true, recurses := true, apart := false }
def RecEncodesSaid : Prop := recEncodesRow.holds Try.pinned (OpenSpec.ofChange recEncodesSpec)

/-- ITS FALSE NEIGHBOUR: 'it returns false'. Refute it at one input. -/
def recEncodesWrong : ChangeSpec := { name := "recEncodes", fn := fun _ => fun
  | [d] => { results := [.lit (.bool false)], args := [d] }
  | _ => none }
def RecEncodesWrongFalsely : Prop := recEncodesRow.holds Try.pinned (OpenSpec.ofChange recEncodesWrong)

/-- 'manciplelaw06.RecDecodes': WHATEVER THE INPUT: true; the input reads as it did. -/
def recDecodesSpec : ChangeSpec := { name := "recDecodes", fn := fun _ => fun
  | [d] => { results := [.lit (.bool true)], args := [d] }
  | _ => none }
def recDecodesRow : OpenClaim := { program := "ythbaoljghofkoaa", sum := "03834a3f4b59846f79352b18c8920cdbde77072c6359ccafaac6e0fd5586ec9d", func := "manciple/manciplelaw06.RecDecodes", spec := "recDecodes", unfollowed := true, recurses := true, apart := false }
def RecDecodesSaid : Prop := recDecodesRow.holds Try.pinned (OpenSpec.ofChange recDecodesSpec)

/-- ITS FALSE NEIGHBOUR: 'it returns false'. Refute it at one input. -/
def recDecodesWrong : ChangeSpec := { name := "recDecodes", fn := fun _ => fun
  | [d] => { results := [.lit (.bool false)], args := [d] }
  | _ => none }
def RecDecodesWrongFalsely : Prop := recDecodesRow.holds Try.pinned (OpenSpec.ofChange recDecodesWrong)

/-- 'manciplelaw06.RecBack': WHATEVER THE INPUT: true; the input reads as it did. -/
def recBackSpec : ChangeSpec := { name := "recBack", fn := fun _ => fun
  | [d1, d2, d3] => { results := [.lit (.bool true)], args := [d1, d2, d3] }
  | _ => none }
def recBackRow : OpenClaim := { program := "ythbaoljghofkoaa", sum := "03834a3f4b59846f79352b18c8920cdbde77072c6359ccafaac6e0fd5586ec9d", func := "manciple/manciplelaw06.RecBack", spec := "recBack", unfollowed := true, recurses := true, apart := false }
def RecBackSaid : Prop := recBackRow.holds Try.pinned (OpenSpec.ofChange recBackSpec)

/-- ITS FALSE NEIGHBOUR: 'it returns false'. Refute it at one input. -/
def recBackWrong : ChangeSpec := { name := "recBack", fn := fun _ => fun
  | [d1, d2, d3] => { results := [.lit (.bool false)], args := [d1, d2, d3] }
  | _ => none }
def RecBackWrongFalsely : Prop := recBackRow.holds Try.pinned (OpenSpec.ofChange recBackWrong)

/-- 'manciplelaw06.RecOnly': WHATEVER THE INPUT: true; the input reads as it did. -/
def recOnlySpec : ChangeSpec := { name := "recOnly", fn := fun _ => fun
  | [d1, d2, d3] => { results := [.lit (.bool true)], args := [d1, d2, d3] }
  | _ => none }
def recOnlyRow : OpenClaim := { program := "ythbaoljghofkoaa", sum := "03834a3f4b59846f79352b18c8920cdbde77072c6359ccafaac6e0fd5586ec9d", func := "manciple/manciplelaw06.RecOnly", spec := "recOnly", unfollowed := true, recurses := true, apart := false }
def RecOnlySaid : Prop := recOnlyRow.holds Try.pinned (OpenSpec.ofChange recOnlySpec)

/-- ITS FALSE NEIGHBOUR: 'it returns false'. Refute it at one input. -/
def recOnlyWrong : ChangeSpec := { name := "recOnly", fn := fun _ => fun
  | [d1, d2, d3] => { results := [.lit (.bool false)], args := [d1, d2, d3] }
  | _ => none }
def RecOnlyWrongFalsely : Prop := recOnlyRow.holds Try.pinned (OpenSpec.ofChange recOnlyWrong)

/-- 'manciplelaw06.RecApart': WHATEVER THE INPUT: true; the input reads as it did. -/
def recApartSpec : ChangeSpec := { name := "recApart", fn := fun _ => fun
  | [d1, d2] => { results := [.lit (.bool true)], args := [d1, d2] }
  | _ => none }
def recApartRow : OpenClaim := { program := "ythbaoljghofkoaa", sum := "03834a3f4b59846f79352b18c8920cdbde77072c6359ccafaac6e0fd5586ec9d", func := "manciple/manciplelaw06.RecApart", spec := "recApart", unfollowed := true, recurses := true, apart := false }
def RecApartSaid : Prop := recApartRow.holds Try.pinned (OpenSpec.ofChange recApartSpec)

/-- ITS FALSE NEIGHBOUR: 'it returns false'. Refute it at one input. -/
def recApartWrong : ChangeSpec := { name := "recApart", fn := fun _ => fun
  | [d1, d2] => { results := [.lit (.bool false)], args := [d1, d2] }
  | _ => none }
def RecApartWrongFalsely : Prop := recApartRow.holds Try.pinned (OpenSpec.ofChange recApartWrong)

/-- 'manciplelaw06.RecTurned': WHATEVER THE INPUT: true; the input reads as it did. -/
def recTurnedSpec : ChangeSpec := { name := "recTurned", fn := fun _ => fun
  | [d] => { results := [.lit (.bool true)], args := [d] }
  | _ => none }
def recTurnedRow : OpenClaim := { program := "ythbaoljghofkoaa", sum := "03834a3f4b59846f79352b18c8920cdbde77072c6359ccafaac6e0fd5586ec9d", func := "manciple/manciplelaw06.RecTurned", spec := "recTurned", unfollowed := true, recurses := true, apart := false }
def RecTurnedSaid : Prop := recTurnedRow.holds Try.pinned (OpenSpec.ofChange recTurnedSpec)

/-- ITS FALSE NEIGHBOUR: 'it returns false'. Refute it at one input. -/
def recTurnedWrong : ChangeSpec := { name := "recTurned", fn := fun _ => fun
  | [d] => { results := [.lit (.bool false)], args := [d] }
  | _ => none }
def RecTurnedWrongFalsely : Prop := recTurnedRow.holds Try.pinned (OpenSpec.ofChange recTurnedWrong)

/- THE SECOND FORM. 'bulk': how many values and letters a reading holds, each counted each time it is reached (what is shared counts as often as it is met; a slice's spare places count too). A statement '..UptoSaid' is the law's where the arguments, and the package variables that the reading takes, are together of bulk at most 1048576: NARROWER than '..Said'. Prove '..Said' where nothing that the law and all that it calls make is longer than what came in: it says more and counts as full. Else prove '..UptoSaid'. A law counts once. -/
mutual
def uptoBulk {H : Type} : DataW H → Nat
  | .lit (.string bytes) => bytes.length + 1
  | .lit _ => 1
  | .nil => 1
  | .ptr d => uptoBulk d + 1
  | .slice elems spare => uptoBulkAll elems + uptoBulkAll spare + 1
  | .agg parts => uptoBulkAll parts + 1
  | .iface _ d => uptoBulk d + 1
  | .map entries => uptoBulkEntries entries + 1
  | .held _ => 1
def uptoBulkAll {H : Type} : List (DataW H) → Nat
  | [] => 0
  | d :: r => uptoBulk d + uptoBulkAll r
def uptoBulkEntries {H : Type} : List (Lit × DataW H) → Nat
  | [] => 0
  | x :: r => uptoBulkEntry x + uptoBulkEntries r
def uptoBulkEntry {H : Type} : Lit × DataW H → Nat
  | (.string bytes, d) => bytes.length + uptoBulk d + 1
  | (_, d) => uptoBulk d + 1
 end
def uptoSmall : (H : Type) → List (DataW H) → Bool := fun _ ds => decide (uptoBulkAll ds ≤ 1048576)
def OpenSpec.upto (s : _root_.Go.ChangeSpec) : _root_.Go.OpenSpec := { _root_.Go.OpenSpec.ofChange s with cond := some uptoSmall }

/-- 'manciplelaw06.RecEncodes', WHERE WHAT IT READS IS OF BULK AT MOST 1048576: true; the input reads as it did. -/
def recEncodesUptoRow : OpenClaim := { program := "ythbaoljghofkoaa", sum := "03834a3f4b59846f79352b18c8920cdbde77072c6359ccafaac6e0fd5586ec9d", func := "manciple/manciplelaw06.RecEncodes", spec := "recEncodes", unfollowed := true, recurses := true, apart := false, narrowed := true }
def RecEncodesUptoSaid : Prop := recEncodesUptoRow.holds Try.pinned (OpenSpec.upto recEncodesSpec)

/-- 'manciplelaw06.RecDecodes', WHERE WHAT IT READS IS OF BULK AT MOST 1048576: true; the input reads as it did. -/
def recDecodesUptoRow : OpenClaim := { program := "ythbaoljghofkoaa", sum := "03834a3f4b59846f79352b18c8920cdbde77072c6359ccafaac6e0fd5586ec9d", func := "manciple/manciplelaw06.RecDecodes", spec := "recDecodes", unfollowed := true, recurses := true, apart := false, narrowed := true }
def RecDecodesUptoSaid : Prop := recDecodesUptoRow.holds Try.pinned (OpenSpec.upto recDecodesSpec)

/-- 'manciplelaw06.RecBack', WHERE WHAT IT READS IS OF BULK AT MOST 1048576: true; the input reads as it did. -/
def recBackUptoRow : OpenClaim := { program := "ythbaoljghofkoaa", sum := "03834a3f4b59846f79352b18c8920cdbde77072c6359ccafaac6e0fd5586ec9d", func := "manciple/manciplelaw06.RecBack", spec := "recBack", unfollowed := true, recurses := true, apart := false, narrowed := true }
def RecBackUptoSaid : Prop := recBackUptoRow.holds Try.pinned (OpenSpec.upto recBackSpec)

/-- 'manciplelaw06.RecOnly', WHERE WHAT IT READS IS OF BULK AT MOST 1048576: true; the input reads as it did. -/
def recOnlyUptoRow : OpenClaim := { program := "ythbaoljghofkoaa", sum := "03834a3f4b59846f79352b18c8920cdbde77072c6359ccafaac6e0fd5586ec9d", func := "manciple/manciplelaw06.RecOnly", spec := "recOnly", unfollowed := true, recurses := true, apart := false, narrowed := true }
def RecOnlyUptoSaid : Prop := recOnlyUptoRow.holds Try.pinned (OpenSpec.upto recOnlySpec)

/-- 'manciplelaw06.RecApart', WHERE WHAT IT READS IS OF BULK AT MOST 1048576: true; the input reads as it did. -/
def recApartUptoRow : OpenClaim := { program := "ythbaoljghofkoaa", sum := "03834a3f4b59846f79352b18c8920cdbde77072c6359ccafaac6e0fd5586ec9d", func := "manciple/manciplelaw06.RecApart", spec := "recApart", unfollowed := true, recurses := true, apart := false, narrowed := true }
def RecApartUptoSaid : Prop := recApartUptoRow.holds Try.pinned (OpenSpec.upto recApartSpec)

/-- 'manciplelaw06.RecTurned', WHERE WHAT IT READS IS OF BULK AT MOST 1048576: true; the input reads as it did. -/
def recTurnedUptoRow : OpenClaim := { program := "ythbaoljghofkoaa", sum := "03834a3f4b59846f79352b18c8920cdbde77072c6359ccafaac6e0fd5586ec9d", func := "manciple/manciplelaw06.RecTurned", spec := "recTurned", unfollowed := true, recurses := true, apart := false, narrowed := true }
def RecTurnedUptoSaid : Prop := recTurnedUptoRow.holds Try.pinned (OpenSpec.upto recTurnedSpec)

end Rows
end Go.Proofs.Ythbaoljghofkoaa
