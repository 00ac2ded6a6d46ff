/- Several blocks that are known whole, at once. Conditions: none; no program in sight. -/
import Derived.Test.YthbaoljghofkoaaFrames
namespace Go.Proofs.Ythbaoljghofkoaa
open Go.RowKit
set_option linter.unusedVariables false

/-- Each of these blocks is just these cells. -/
def Blks (w : World) (L : List (Nat × TypeId × Array Value)) : Prop := ∀ x ∈ L, Blk w x.1 x.2.1 x.2.2
section
variable {w w' : World} {L : List (Nat × TypeId × Array Value)}
theorem Blks.nil (w : World) : Blks w [] := fun x hx => by cases hx
theorem Blks.cons {g : Nat} {t : TypeId} {cs : Array Value} (h : Blk w g t cs) (hs : Blks w L) : Blks w ((g, t, cs) :: L) := fun x hx => by
  rcases List.mem_cons.1 hx with rfl | hx
  · exact h
  · exact hs x hx
theorem Blks.below (h : Blks w L) (hb : Below w.heap.size w w') : Blks w' L := fun x hx => (h x hx).below hb (h x hx).lt
theorem Blks.alloc (h : Blks w L) (o : Obj) : Blks (w.alloc o) L := fun x hx => (h x hx).alloc o
theorem Blks.drew (h : Blks w L) : Blks w.drew L := h
theorem Blks.drewN (h : Blks w L) (n : Nat) : Blks (w.drewN n) L := h
theorem Blks.new (h : Blks w L) (t : TypeId) (cs : Array Value) : Blks (w.alloc (.cells cs t)) ((w.heap.size, t, cs) :: L) := Blks.cons (Blk.new w t cs) (h.alloc _)
theorem Blks.head {g : Nat} {t : TypeId} {cs : Array Value} (h : Blks w ((g, t, cs) :: L)) : Blk w g t cs := h _ (List.mem_cons_self ..)
theorem Blks.tail {x : Nat × TypeId × Array Value} (h : Blks w (x :: L)) : Blks w L := fun y hy => h y (List.mem_cons_of_mem _ hy)
theorem Blks.lt (h : Blks w L) : ∀ x ∈ L, x.1 < w.heap.size := fun x hx => (h x hx).lt
end
end Go.Proofs.Ythbaoljghofkoaa
