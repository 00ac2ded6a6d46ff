/- A device of the program's and the document's beside each other. Conditions: none. -/
import Derived.Test.YtnbbneldbagohaaRNew
import Derived.Test.YtnbbneldbagohaaRCrash
import Derived.Test.YtnbbneldbagohaaDiskTwo
namespace Go.Proofs.Ytnbbneldbagohaa
open Go.ChangeShapes Go.WideShapes Go.ChangeAt Go.RowKit
set_option linter.unusedVariables false
set_option linter.unusedSimpArgs false

/-- the document's device D lies in blocks F, all made since w0 -/
structure Rv (D : DevP) (w0 w : World) (F : Nat → Prop) (p : Value) : Prop where
  dev : IsRDev D w F p
  hi : ∀ b, F b → b < w.heap.size
  lo : ∀ b, F b → w0.heap.size ≤ b
structure DvR (DA DB : DevP) (w0 w : World) (F1 F2 : Nat → Prop) (p1 p2 : Value) : Prop where
  a : Dv DA w0 w F1 p1
  b : Rv DB w0 w F2 p2
  dis : ∀ x, F1 x → F2 x → False
section
variable {D D' DA DB : DevP} {w0 w w' : World} {F F1 F2 S : Nat → Prop} {p p1 p2 : Value}
theorem Rv.below (h : Rv D w0 w F p) (hb : Below w.heap.size w w') : Rv D w0 w' F p := ⟨h.dev.below hb, fun b q => Nat.lt_of_lt_of_le (h.hi b q) hb.size, h.lo⟩
theorem Rv.post (h : Rv D w0 w F p) (hw : w0.heap.size ≤ w.heap.size) (hp : RPost D' F p w w') : Rv D' w0 w' (grow F w w') p ∧ Below w0.heap.size w w' :=
  ⟨⟨hp.1, fun b q => q.elim (fun z => Nat.lt_of_lt_of_le (h.hi b z) hp.2.size) fun z => z.2, fun b q => q.elim (h.lo b) fun z => Nat.le_trans hw z.1⟩, hp.2.below hw h.lo⟩
theorem Rv.start (h : IsRDev D w' (fun x => w.heap.size ≤ x ∧ x < w'.heap.size) p) (hw : w0.heap.size ≤ w.heap.size) : Rv D w0 w' (fun x => w.heap.size ≤ x ∧ x < w'.heap.size) p := ⟨h, fun b q => q.2, fun b q => Nat.le_trans hw q.1⟩
theorem Rv.other (h : Rv D w0 w F2 p) (ho : Only S w w') (hd : ∀ x, S x → F2 x → False) : Rv D w0 w' F2 p := ⟨h.dev.only ho fun b q z => hd b z q, fun b q => Nat.lt_of_lt_of_le (h.hi b q) ho.size, h.lo⟩
theorem Dv.other2 (h : Dv D w0 w F2 p) (ho : Only S w w') (hd : ∀ x, S x → F2 x → False) : Dv D w0 w' F2 p := ⟨h.dev.only ho fun b q z => hd b z q, fun b q => Nat.lt_of_lt_of_le (h.hi b q) ho.size, h.lo⟩
theorem DvR.below (h : DvR DA DB w0 w F1 F2 p1 p2) (hb : Below w.heap.size w w') : DvR DA DB w0 w' F1 F2 p1 p2 := ⟨h.a.below hb, h.b.below hb, h.dis⟩
theorem DvR.only (h : DvR DA DB w0 w F1 F2 p1 p2) (ho : Only S w w') (h1 : ∀ x, F1 x → ¬ S x) (h2 : ∀ x, F2 x → ¬ S x) : DvR DA DB w0 w' F1 F2 p1 p2 := ⟨h.a.other2 ho fun x q z => h1 x z q, h.b.other ho fun x q z => h2 x z q, h.dis⟩
theorem DvR.postA (h : DvR DA DB w0 w F1 F2 p1 p2) (hw : w0.heap.size ≤ w.heap.size) (hp : DevPost D' F1 p1 w w') : DvR D' DB w0 w' (grow F1 w w') F2 p1 p2 ∧ Below w0.heap.size w w' := by
  obtain ⟨h1, h2⟩ := h.a.post hw hp
  exact ⟨⟨h1, h.b.other hp.2 h.dis, fun x q z => q.elim (fun y => h.dis x y z) fun y => by have := h.b.hi x z; omega⟩, h2⟩
theorem DvR.postB (h : DvR DA DB w0 w F1 F2 p1 p2) (hw : w0.heap.size ≤ w.heap.size) (hp : RPost D' F2 p2 w w') : DvR DA D' w0 w' F1 (grow F2 w w') p1 p2 ∧ Below w0.heap.size w w' := by
  obtain ⟨h1, h2⟩ := h.b.post hw hp
  exact ⟨⟨h.a.other2 hp.2 fun x q z => h.dis x z q, h1, fun x q z => z.elim (fun y => h.dis x q y) fun y => by have := h.a.hi x q; omega⟩, h2⟩
end
/-- what a call makes of a device -/
def DevP.doesP (D : DevP) (x : OpP) : DevP :=
  if x.kind % 9 = 8 then D.halt x.sector
  else if x.kind % 9 = 4 then D
  else if x.kind % 9 = 5 then D.sync x.file
  else if x.kind % 9 = 6 then D.crash x.fates
  else if x.kind % 9 = 7 then D
  else (D.write x.file x.sector (if x.kind % 9 < 3 then fullL x.data else x.data)).2
theorem DevP.good.doesP {D : DevP} {N : Nat} (h : D.good N) (x : OpP) : (D.doesP x).good (N + 1) := by
  unfold DevP.doesP
  split
  · exact DevP.good.mono (D := D.halt x.sector) (N := N) h (Nat.le_succ N)
  · split
    · exact h.mono (Nat.le_succ N)
    · split
      · exact (h.sync _).mono (Nat.le_succ N)
      · split
        · exact (h.crash _).mono (Nat.zero_le _)
        · split
          · exact h.mono (Nat.le_succ N)
          · exact h.write _ _ _
theorem crash_length (D : DevP) (l : List FateP) (m : Nat) : ((D.crash l).f m).length = (D.f m).length := by
  show (List.mapIdx _ _).length = _
  rw [List.length_mapIdx]
theorem doesP_length (D : DevP) (x : OpP) (m : Nat) : ((D.doesP x).f m).length = (D.f m).length := by
  unfold DevP.doesP
  split
  · rfl
  · split
    · rfl
    · split
      · exact sync_length _ _ _
      · split
        · exact crash_length _ _ _
        · split
          · rfl
          · exact write_length _ _ _ _ _
theorem read_no (D : DevP) (n : Nat) (i : Int) : (D.read n i).2 ≤ 50 := by
  unfold DevP.read
  split <;> simp
theorem write_no (D : DevP) (n : Nat) (i : Int) (l : List Nat) : (D.write n i l).1 ≤ 50 := by
  unfold DevP.write
  split
  · split <;> simp
  · simp
end Go.Proofs.Ytnbbneldbagohaa
