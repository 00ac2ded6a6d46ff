/- Two devices at once. Conditions: none. -/
import Derived.Test.YtnbbneldbagohaaDiskPlay
import Derived.Test.YtnbbneldbagohaaBlocks
namespace Go.Proofs.Ytnbbneldbagohaa
open Go.ChangeShapes Go.WideShapes Go.ChangeAt Go.RowKit
set_option linter.unusedVariables false
set_option linter.unusedSimpArgs false

structure Dv2 (DA DB : DevP) (w0 w : World) (F1 F2 : Nat → Prop) (p1 p2 : Value) : Prop where
  a : Dv DA w0 w F1 p1
  b : Dv DB w0 w F2 p2
  dis : ∀ x, F1 x → F2 x → False
section
variable {DA DB D' : DevP} {w0 w w' : World} {F1 F2 : Nat → Prop} {p1 p2 : Value}
theorem Dv.other (h : Dv DB w0 w F2 p2) (ho : Only F1 w w') (hd : ∀ x, F1 x → F2 x → False) : Dv DB w0 w' F2 p2 := ⟨h.dev.only ho fun b q z => hd b z q, fun b q => Nat.lt_of_lt_of_le (h.hi b q) ho.size, h.lo⟩
theorem Dv2.below (h : Dv2 DA DB w0 w F1 F2 p1 p2) (hb : Below w.heap.size w w') : Dv2 DA DB w0 w' F1 F2 p1 p2 := ⟨h.a.below hb, h.b.below hb, h.dis⟩
theorem Dv2.postA (h : Dv2 DA DB w0 w F1 F2 p1 p2) (hw : w0.heap.size ≤ w.heap.size) (hp : DevPost D' F1 p1 w w') : Dv2 D' DB w0 w' (grow F1 w w') F2 p1 p2 ∧ Below w0.heap.size w w' := by
  obtain ⟨h1, h2⟩ := h.a.post hw hp
  exact ⟨⟨h1, h.b.other hp.2 h.dis, fun x q z => q.elim (fun y => h.dis x y z) fun y => by have := h.b.hi x z; omega⟩, h2⟩
theorem Dv2.postB (h : Dv2 DA DB w0 w F1 F2 p1 p2) (hw : w0.heap.size ≤ w.heap.size) (hp : DevPost D' F2 p2 w w') : Dv2 DA D' w0 w' F1 (grow F2 w w') p1 p2 ∧ Below w0.heap.size w w' := by
  obtain ⟨h1, h2⟩ := h.b.post hw hp
  exact ⟨⟨h.a.other hp.2 fun x q z => h.dis x z q, h1, fun x q z => z.elim (fun y => h.dis x q y) fun y => by have := h.a.hi x q; omega⟩, h2⟩
end

theorem goes_none {D : DevP} (h : D.left = none) : D.goes = (true, D) := by unfold DevP.goes; rw [h]
theorem write_left {D : DevP} (h : D.left = none) (n : Nat) (i : Int) (l : List Nat) : (D.write n i l).2.left = none := by
  unfold DevP.write
  rw [goes_none h]
  split
  · split
    · exact h
    · exact h
  · exact h
theorem sync_left {D : DevP} (h : D.left = none) (n : Nat) : (D.sync n).left = none := by
  unfold DevP.sync
  rw [goes_none h]
  split
  · exact h
  · exact h
theorem write_other {D : DevP} (h : D.left = none) {n m : Nat} (hn : m ≠ n) (i : Int) (l : List Nat) : (D.write n i l).2.f m = D.f m := by
  unfold DevP.write
  rw [goes_none h]
  split
  · split
    · show putF D.f n _ _ m = _
      exact if_neg hn
    · rfl
  · rfl
theorem sync_other {D : DevP} (h : D.left = none) {n m : Nat} (hn : m ≠ n) : (D.sync n).f m = D.f m := by
  unfold DevP.sync
  rw [goes_none h]
  split
  · show mapF D n _ m = _
    exact if_neg hn
  · rfl
theorem write_same {DA DB : DevP} (ha : DA.left = none) (hb : DB.left = none) {n : Nat} (h : DA.f n = DB.f n) (i : Int) (l : List Nat) : (DA.write n i l).2.f n = (DB.write n i l).2.f n := by
  have hh : DA.has n i ↔ DB.has n i := by unfold DevP.has; rw [h]
  unfold DevP.write
  rw [goes_none ha, goes_none hb]
  by_cases q : DA.has n i
  · rw [if_pos q, if_pos (hh.1 q)]
    split
    · show putF DA.f n _ _ n = putF DB.f n _ _ n
      unfold putF DevP.sect
      simp only [if_true, h]
    · exact h
  · rw [if_neg q, if_neg (fun z => q (hh.2 z))]
    exact h
theorem sync_same {DA DB : DevP} (ha : DA.left = none) (hb : DB.left = none) {n : Nat} (h : DA.f n = DB.f n) : (DA.sync n).f n = (DB.sync n).f n := by
  unfold DevP.sync
  rw [goes_none ha, goes_none hb]
  split
  · show mapF DA n _ n = mapF DB n _ n
    unfold mapF
    simp only [if_true, h]
  · exact h
theorem write_length (D : DevP) (n : Nat) (i : Int) (l : List Nat) (m : Nat) : ((D.write n i l).2.f m).length = (D.f m).length := by
  unfold DevP.write
  split
  · split
    · split
      · show (putF _ n _ _ m).length = _
        rw [putF_length, DevP.goes_f]
      · rw [DevP.goes_f]
    · rfl
  · rfl
theorem sync_length (D : DevP) (n m : Nat) : ((D.sync n).f m).length = (D.f m).length := by
  unfold DevP.sync
  split
  · split
    · show (mapF _ n _ m).length = _
      rw [mapF_length]
    · rw [DevP.goes_f]
  · rfl
theorem plays_length (D : DevP) (x : OpP) (m : Nat) : ((D.plays x).2.f m).length = (D.f m).length := by
  unfold DevP.plays
  split
  · exact write_length _ _ _ _ _
  · split
    · exact write_length _ _ _ _ _
    · split
      · exact sync_length _ _ _
      · rfl
theorem plays_left {D : DevP} (h : D.left = none) (x : OpP) : (D.plays x).2.left = none := by
  unfold DevP.plays
  split
  · exact write_left h _ _ _
  · split
    · exact write_left h _ _ _
    · split
      · exact sync_left h _
      · exact h
theorem plays_other {D : DevP} (h : D.left = none) {x : OpP} {m : Nat} (hn : m ≠ x.file) : (D.plays x).2.f m = D.f m := by
  unfold DevP.plays
  split
  · exact write_other h hn _ _
  · split
    · exact write_other h hn _ _
    · split
      · exact sync_other h hn
      · rfl
theorem plays_same {DA DB : DevP} (ha : DA.left = none) (hb : DB.left = none) {x : OpP} (h : DA.f x.file = DB.f x.file) : (DA.plays x).2.f x.file = (DB.plays x).2.f x.file := by
  unfold DevP.plays
  split
  · exact write_same ha hb h _ _
  · split
    · exact write_same ha hb h _ _
    · split
      · exact sync_same ha hb h
      · exact h
end Go.Proofs.Ytnbbneldbagohaa
