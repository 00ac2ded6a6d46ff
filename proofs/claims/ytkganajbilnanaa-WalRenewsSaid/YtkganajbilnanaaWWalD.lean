/- The log, plain: what its calls do to the device. Conditions: none; no program in sight. -/
import Derived.Test.YtkganajbilnanaaWWalM
namespace Go.Proofs.Ytkganajbilnanaa
set_option linter.unusedVariables false
set_option linter.unusedSimpArgs false

/-- a log beside its device -/
structure LogP where
  h : HeadP
  strips : Nat
  slot : Nat
  stream : List Nat
  starts : List Nat
  lasts : Nat
def zsec : List Nat := List.replicate 128 0
def wantAt (want : List (List Nat)) (i : Nat) : List Nat := want[i]?.getD zsec
/-- make: so many sectors from a place on are so; did one turn? -/
def makeN (D : DevP) (p : Nat) (want : List (List Nat)) : Nat → DevP × Bool
  | 0 => (D, false)
  | i + 1 =>
    let s := makeN D p want i
    if (s.1.read 0 ((p + i : Nat) : Int)).1 = wantAt want i then s else ((s.1.write 0 ((p + i : Nat) : Int) (wantAt want i)).2, true)
def makeP (D : DevP) (p n : Nat) (want : List (List Nat)) : DevP := if (makeN D p want n).2 = true then (makeN D p want n).1.sync 0 else (makeN D p want n).1
theorem makeN_good {D : DevP} {N : Nat} (h : D.good N) (p : Nat) (want : List (List Nat)) : ∀ n, (makeN D p want n).1.good (N + n)
  | 0 => h
  | n + 1 => by
    have ih := makeN_good h p want n
    unfold makeN
    dsimp only
    split
    · exact ih.mono (by omega)
    · exact ih.write 0 _ _
theorem makeP_good {D : DevP} {N : Nat} (h : D.good N) (p n : Nat) (want : List (List Nat)) : (makeP D p n want).good (N + n) := by
  unfold makeP
  split
  · exact (makeN_good h p want n).sync 0
  · exact makeN_good h p want n
/-- say: a new header in the other sector -/
def sayL (L : LogP) : LogP := { L with h := { L.h with stamp := (L.h.stamp + 1) % 18446744073709551616 }, slot := 1 - L.slot }
def sayD (L : LogP) (D : DevP) : DevP := ((D.write 0 (((sayL L).slot : Nat) : Int) (hsec (sayL L).h)).2).sync 0
theorem sayD_good {L : LogP} {D : DevP} {N : Nat} (h : D.good N) : (sayD L D).good (N + 1) := (h.write 0 _ _).sync 0
/-- find: the header that counts, the greatest stamp -/
def findStep (D : DevP) (slot : Nat) (s : HeadP × Nat) : HeadP × Nat :=
  let b := (D.read 0 (slot : Int)).1
  if isHead b = true ∧ s.1.stamp < (wheadP b).stamp then (wheadP b, slot) else s
def findP (D : DevP) : HeadP × Nat := findStep D 1 (findStep D 0 (⟨0, 0, 0, 0⟩, 0))
end Go.Proofs.Ytkganajbilnanaa
