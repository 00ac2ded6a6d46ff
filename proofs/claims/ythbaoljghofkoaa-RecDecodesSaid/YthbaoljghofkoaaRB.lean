/- A list of bytes that a call gathers by append. Conditions: as stated. -/
import Derived.Test.YthbaoljghofkoaaNum
import Derived.Test.YthbaoljghofkoaaFrames
import Derived.Test.YthbaoljghofkoaaBrows
import Derived.Test.YthbaoljghofkoaaSteps
namespace Go.Proofs.Ythbaoljghofkoaa
open Go.ChangeShapes Go.WideShapes Go.ChangeAt Go.RowKit
open NumMath
set_option linter.unusedVariables false

/-- The slice (A, n, c) is a row of the call's own, in blocks that are new since w0, and holds the bytes l; nothing that was there at w0 has turned. -/
def RB (w0 w : World) (A : Option Addr) (n c : Nat) (l : List Nat) : Prop :=
  w.ownsRow w0.heap.size 5 1 (.slice A n c) n (l.map byteV) ∧ Below w0.heap.size w0 w ∧ Small l ∧ l.length = n
theorem RB.start (w : World) : RB w w none 0 0 [] := ⟨World.ownsRow_nil _ _ _ _, Below.refl _ _, (fun x hx => by cases hx), rfl⟩
theorem RB.keep {w0 w w' : World} {A : Option Addr} {n c : Nat} {l : List Nat} (h : RB w0 w A n c l) (hb : Below w.heap.size w w') : RB w0 w' A n c l :=
  ⟨kept_none (below_none hb) h.1, h.2.1.trans (hb.mono h.2.1.size), h.2.2⟩
theorem RB.alloc {w0 w : World} {A : Option Addr} {n c : Nat} {l : List Nat} (h : RB w0 w A n c l) (o : Obj) : RB w0 (w.alloc o) A n c l := h.keep ((Below.refl _ _).alloc (Nat.le_refl _) o)
theorem RB.cell {w0 w : World} {A : Option Addr} {n c : Nat} {l : List Nat} (h : RB w0 w A n c l) {b : Nat} (hb : b < w0.heap.size) (o : Nat) : w.cell? ⟨b, o, none⟩ = w0.cell? ⟨b, o, none⟩ := h.2.1.cell (p := ⟨b, o, none⟩) hb
theorem RB.bytes {w0 w : World} {A : Option Addr} {n c : Nat} {l : List Nat} (h : RB w0 w A n c l) : Bytes w w.heap.size A l := ⟨At.own h.1, h.2.2.1⟩
theorem RB.ret {w0 w w' : World} {A : Option Addr} {n c : Nat} {l : List Nat} (h : RB w0 w' A n c l) (hb : Below w.heap.size w w0) : RetBytes 5 l w (.returned (.slice A n c)) w' := by
  obtain ⟨h1, h2, h3, rfl⟩ := h
  exact ⟨A, c, rfl, own_base hb.size h1, hb.trans (h2.mono hb.size), h3⟩
/-- a result that is the first of them -/
theorem RB.of_ret {w0 w w' : World} {A : Option Addr} {n c : Nat} {l : List Nat} (hb : Below w0.heap.size w0 w) (ho : w'.ownsRow w.heap.size 5 1 (.slice A n c) n (l.map byteV)) (hb' : Below w.heap.size w w') (hs : Small l) (hn : l.length = n) : RB w0 w' A n c l :=
  ⟨own_base hb.size ho, hb.trans (hb'.mono hb.size), hs, hn⟩

theorem wpList_append_rb {w : World} {ops : Array Oper} {rest : List Oper} {o : Oper} {a : Act} {Q : Exit → Act → World → Prop} (hgd : o.guard = none) (s x : Operand) (t t' : TypeId)
    (ho : o.op = .call { callee := .builtin .append, args := #[s, x], argTypes := #[t, t'] })
    (ht : Try.prog.underlying t = some (.slice 5)) (ht' : Try.prog.underlying t' = some (.slice 5)) {w0 : World} {A : Option Addr} {n c : Nat} {l : List Nat} (h : RB w0 w A n c l) (hs : a.eval s = .slice A n c)
    (B : Nat) (A1 : Option Addr) (m c1 : Nat) (news : List Nat) (hx : a.eval x = .slice A1 m c1) (hb : Bytes w B A1 news) (hm : news.length = m) (hn : n + m ≤ 1000000)
    (k : ∀ A' c' w', RB w0 w' A' (n + m) c' (l ++ news) → wpList Try.prog ops Q rest (a.put o.dst (.slice A' (n + m) c')) w') : wpList Try.prog ops Q (o :: rest) a w := by
  obtain ⟨i0, hi0, hz0, hz1, hz2⟩ := info_parts u8_info
  refine wpList_append_at2 hgd s x t t' ho w0.heap.size 5 i0 _ 1 ht ht' hi0 hz0 hz1 hz2 rfl _ n (l.map byteV) hs h.1 B A1 m c1 (news.map byteV) hx (by rw [List.length_map, hm]) hb.1 (bytes_oneCell _) (by unfold maxLen; omega) (by omega) h.2.1.size ?_
  intro A' c' w' hown hg hat
  refine k A' c' w' ⟨by rw [List.map_append]; exact hown, below_own h.2.1 hg h.1 (Nat.le_refl _) h.2.1.size, small_append h.2.2.1 hb.2, by rw [List.length_append, h.2.2.2, hm]⟩
theorem one_bytes (w : World) {x : Nat} (hx : x < 256) : Bytes (w.alloc (.cells #[.int .u8 (x : Int)] 5)) (w.heap.size + 1) (some ⟨w.heap.size, 0, none⟩) [x] :=
  ⟨one_new w x, fun y hy => by simp at hy; omega⟩
theorem box_start (w : World) (cs : Array Value) (t : TypeId) : Below w.heap.size w (w.alloc (.cells cs t)) ∧ (w.alloc (.cells cs t)).heap.size = w.heap.size + 1 ∧ ∀ o, (w.alloc (.cells cs t)).cell? ⟨w.heap.size, o, none⟩ = cs[o]? := by
  refine ⟨(Below.refl _ _).alloc (Nat.le_refl _) _, by simp, fun o => ?_⟩
  have h0 : (w.alloc (.cells cs t)).heap[w.heap.size]? = some (.cells cs t (0, 0)) := heap_alloc_new w _
  simp only [World.cell?, h0]
  simp
theorem one_rb (w : World) {x : Nat} (hx : x < 256) : RB w (w.alloc (.cells #[.int .u8 (x : Int)] 5)) (some ⟨w.heap.size, 0, none⟩) 1 1 [x] := by
  refine ⟨⟨rfl, .inr ⟨w.heap.size, 1, #[.int .u8 (x : Int)], rfl, Nat.le_refl _, heap_alloc_new w _, Nat.le_refl _, by unfold maxLen; omega, rfl, rfl⟩⟩, (Below.refl _ _).alloc (Nat.le_refl _) _, fun y hy => by simp at hy; omega, rfl⟩
end Go.Proofs.Ythbaoljghofkoaa
