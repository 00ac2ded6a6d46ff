/- The contract of codec's writer: a number is laid behind what was laid. Conditions: as stated. -/
import Derived.Test.YtciidogbojbkiaaNum
import Derived.Test.YtciidogbojbkiaaFrames
import Derived.Test.YtciidogbojbkiaaBrows
import Derived.Test.YtciidogbojbkiaaSteps
import Derived.Test.YtciidogbojbkiaaCodecMath
namespace Go.Proofs.Ytciidogbojbkiaa
open Go.ChangeShapes Go.WideShapes Go.ChangeAt Go.RowKit
open NumMath
set_option linter.unusedVariables false
set_option linter.unusedSimpArgs false
set_option maxRecDepth 20000
attribute [local go_sem ↓] Go.wp_at_zero Go.wp_at_succ

/-- A writer's variable: block p holds the bytes l, a row in blocks that are new since W0; only p, and new blocks, have turned since. -/
def Wr (W0 : World) (p : Nat) (l : List Nat) (w : World) : Prop :=
  ∃ A c, w.heap[p]? = some (.cells #[.slice A l.length c] 56 (0, 0)) ∧ w.ownsRow W0.heap.size 5 1 (.slice A l.length c) l.length (l.map byteV) ∧ W0.grownBy w (some p) ∧ p < W0.heap.size ∧ Small l
theorem cell_of_block {w : World} {p : Nat} {v : Value} {t : TypeId} (h : w.heap[p]? = some (.cells #[v] t (0, 0))) : w.cell? ⟨p, 0, none⟩ = some v := by simp [World.cell?, h]
theorem frozen_of_block {w : World} {p : Nat} {cs : Array Value} {t : TypeId} (h : w.heap[p]? = some (.cells cs t (0, 0))) (i : Nat) : w.frozen? ⟨p, i, none⟩ = false := by simp [World.frozen?, h]
theorem set_of_block {w : World} {p : Nat} {v u : Value} {t : TypeId} (h : w.heap[p]? = some (.cells #[v] t (0, 0))) : (w.setCell ⟨p, 0, none⟩ u).heap[p]? = some (.cells #[u] t (0, 0)) := by
  simp [World.setCell, Array.getElem?_modify, h]
theorem putB_nat {n m : Nat} (h1 : 1 ≤ m) (h2 : m ≤ 8) : putB n m = putF m n := by
  unfold putB
  rw [if_pos (by omega)]
  rfl

theorem Wr.step {W0 w w1 w2 : World} {p m c c2 : Nat} {l news : List Nat} {A A2 : Option Addr} (hg : W0.grownBy w (some p)) (hp : p < W0.heap.size) (hs : Small l) (hb1 : Below w.heap.size w w1)
    (hown1 : w1.ownsRow W0.heap.size 5 1 (.slice A l.length c) l.length (l.map byteV))
    (hown2 : w2.ownsRow W0.heap.size 5 1 (.slice A2 (l.length + m) c2) (l.length + m) (l.map byteV ++ news.map byteV)) (hg2 : w1.grownBy w2 (Value.slice A l.length c).ownBlock)
    (hbl2 : w2.heap[p]? = some (.cells #[.slice A l.length c] 56 (0, 0))) (hlen : news.length = m) (hsm : Small news) :
    Wr W0 p (l ++ news) (w2.setCell ⟨p, 0, none⟩ (.slice A2 (l.length + m) c2)) := by
  have e : (l ++ news).length = l.length + m := by rw [List.length_append, hlen]
  refine ⟨A2, c2, ?_, ?_, ?_, hp, small_append hs hsm⟩
  · rw [e]; exact set_of_block hbl2
  · rw [e, List.map_append]
    refine hown2.kept (row := some p) (((Only.refl (fun b => b = p) w2).setCell (p := ⟨p, 0, none⟩) (.inl rfl) _).grown (fun k hk => by rw [hk])) ((own_block (by decide) hown2 hbl2).imp id id)
  · have h1 : Only (fun b => b = p) W0 w1 := (Only.of_grown hg (fun k hk => by injection hk with hk; exact .inl hk.symm)).trans (Only.of_below hb1 _) (fun b q => .inl q)
    have h2 := h1.trans (Only.of_grown (S := fun b => W0.heap.size ≤ b) hg2 (fun k hk => .inl (hown1.lt k hk).1)) (fun b q => .inr q)
    exact (h2.setCell (p := ⟨p, 0, none⟩) (.inl rfl) _).grown (fun k hk => by rw [hk])

set_option maxHeartbeats 1000000 in
theorem number_any (n m : Nat) (hn : n < 18446744073709551616) (h1 : 1 ≤ m) (h8 : m ≤ 8) (W0 : World) (p : Nat) (l : List Nat) (w : World) (h : Wr W0 p l w) (hl : l.length ≤ 100000) :
    Calls Try.prog 23 #[.pointer (some ⟨p, 0, none⟩), .int .u64 n, .int .i64 m] w fun e w' => e = .returned (.tuple #[]) ∧ Wr W0 p (l ++ putF m n) w' := by
  obtain ⟨A, c, hb, hown, hg, hp, hs⟩ := h
  obtain ⟨i0, hi0, hz0, hz1, hz2⟩ := info_parts u8_info
  have hc := cell_of_block hb
  have hpw : p < w.heap.size := Nat.lt_of_lt_of_le hp hg.size
  have hput := fun W => put_any n m W hn (by omega) (by omega)
  rw [putB_nat h1 h8] at hput
  have hlen := putF_length m n
  have hsm := putF_small m n
  go_enter Try.func23, Try.ntmps23
  go_wp2_with fail
  replace hown : w.drew.ownsRow W0.heap.size 5 1 (.slice A l.length c) l.length (l.map byteV) := hown
  go_region_law
    (first
      | (go_simp; go_at_call 27; refine (hput _).mono ?_; intro e w1 hret; obtain ⟨A1, c1, rfl, hown1, hb1, hx1⟩ := hret.is; clear hret; have hbl1 : w1.heap[p]? = some (.cells #[.slice A l.length c] 56 (0, 0)) := (hb1.block p hpw).trans hb; have hc1 := cell_of_block hbl1)
      | (refine step_append_at (by rfl) _ _ 56 28 (by rfl) W0.heap.size 5 i0 _ 1 Try.underlying56 Try.underlying28 hi0 hz0 hz1 hz2 rfl (.slice A l.length c) l.length (l.map byteV) (by rfl) (kept_none (below_none hb1) hown) w1.heap.size A1 m c1 ((putF m n).map byteV) (by rfl) (by simp [hlen]) hx1.1 (bytes_oneCell _) (by unfold maxLen; omega) (by omega) (Nat.le_trans hg.size hb1.size) ?_; intro A2 c2 w2 hown2 hg2 hat2; have hbl2 : w2.heap[p]? = some (.cells #[.slice A l.length c] 56 (0, 0)) := (hg2.block p (Nat.lt_of_lt_of_le hpw hb1.size) ((own_block (by decide) (kept_none (below_none hb1) hown) hbl1).elim (fun e => by rw [e]; simp) Ne.symm)).trans hbl1; have hc2 := cell_of_block hbl2; have hf2 := frozen_of_block hbl2 0))
  all_goals go_wp2
  all_goals
    go_end0
    exact ⟨rfl, Wr.step (grown_drew hg) hp hs hb1 (kept_none (below_none hb1) hown) hown2 hg2 hbl2 hlen hsm⟩
end Go.Proofs.Ytciidogbojbkiaa
