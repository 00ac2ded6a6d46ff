/- The contracts of codec.Ask, codec.Tell. Conditions: numbers fit their kinds. -/
import Derived.Test.YtciidogbojbkiaaCodecW
import Derived.Outline
namespace Go.Proofs.Ytciidogbojbkiaa
open Go.ChangeShapes Go.WideShapes Go.ChangeAt Go.RowKit
open NumMath
set_option linter.unusedVariables false
set_option linter.unusedSimpArgs false
set_option maxRecDepth 20000

def reqV (r : Req) : Value := .agg #[.int .u8 r.k, .int .u32 r.n, .int .u8 r.ok, .int .u32 r.who, .int .u32 r.whom, .int .u32 r.what, .int .u32 r.id, .int .u64 r.on, .int .u64 r.pr]
def repV (r : Rep) : Value := .agg #[.int .u16 r.e, .int .u64 r.a, .int .u64 r.b, .int .u64 r.c]
theorem Wr.cell {W0 : World} {p : Nat} {l : List Nat} {w : World} (h : Wr W0 p l w) {b : Nat} (hb : b < W0.heap.size) (hne : b ≠ p) (o : Nat) : w.cell? ⟨b, o, none⟩ = W0.cell? ⟨b, o, none⟩ := by
  obtain ⟨A, c, _, _, hg, _⟩ := h
  exact World.cell?_of_block (a := ⟨b, o, none⟩) (hg.block b hb (by simpa using hne))

theorem wr_start (w : World) (cs : Array Value) (t : TypeId) : Wr ((w.alloc (.cells cs t)).alloc (.cells #[.slice none 0 0] 56)) (w.heap.size + 1) [] ((w.alloc (.cells cs t)).alloc (.cells #[.slice none 0 0] 56)) ∧
    Below w.heap.size w ((w.alloc (.cells cs t)).alloc (.cells #[.slice none 0 0] 56)) ∧ w.heap.size + 2 ≤ ((w.alloc (.cells cs t)).alloc (.cells #[.slice none 0 0] 56)).heap.size ∧
    ∀ o, ((w.alloc (.cells cs t)).alloc (.cells #[.slice none 0 0] 56)).cell? ⟨w.heap.size, o, none⟩ = cs[o]? := by
  have hb : ((w.alloc (.cells cs t)).alloc (.cells #[.slice none 0 0] 56)).heap[w.heap.size + 1]? = some (.cells #[.slice none 0 0] 56 (0, 0)) := by
    have := heap_alloc_new (w.alloc (.cells cs t)) (.cells #[.slice none 0 0] 56)
    rwa [World.size_alloc] at this
  refine ⟨⟨none, 0, hb, World.ownsRow_nil _ _ _ _, World.grownBy.refl _ _, by simp, fun x hx => by cases hx⟩, ((Below.refl _ _).alloc (Nat.le_refl _) _).alloc (by simp) _, by simp, fun o => ?_⟩
  have h0 : ((w.alloc (.cells cs t)).alloc (.cells #[.slice none 0 0] 56)).heap[w.heap.size]? = some (.cells cs t (0, 0)) := (Below.heap_alloc (w.alloc (.cells cs t)) _ w.heap.size (by simp)).trans (heap_alloc_new w _)
  simp [World.cell?, h0]
theorem Wr.ret {W0 w : World} {p : Nat} {l : List Nat} {w' : World} (h : Wr W0 p l w') (hb : Below w.heap.size w W0) (hp : w.heap.size ≤ p) : ∃ A c, w'.cell? ⟨p, 0, none⟩ = some (.slice A l.length c) ∧ RetBytes 5 l w (.returned (.slice A l.length c)) w' := by
  obtain ⟨A, c, hbl, hown, hg, hp', hs⟩ := h
  exact ⟨A, c, cell_of_block hbl, A, c, rfl, own_base hb.size hown, hb.trans ((Only.of_grown (S := fun b => b = p) hg (fun k hk => by injection hk with hk; exact .inl hk.symm)).below hb.size (fun b q => by omega)), hs⟩

set_option maxHeartbeats 4000000 in
theorem ask_any (r : Req) (hr : r.Fits) (w : World) :
    Calls Try.prog 12 #[reqV r] w (RetBytes 5 (askL r) w) := by
  obtain ⟨k, n, ok, who, whom, what, id, on, pr⟩ := r
  obtain ⟨h1, h2, h3, h4, h5, h6, h7, h8, h9⟩ := hr
  simp only at h1 h2 h3 h4 h5 h6 h7 h8 h9
  unfold reqV
  have i0 : ∀ w, (Instr.index 58 (.agg #[.int .u32 who, .int .u32 whom, .int .u32 what, .int .u32 id]) (.int .i64 0)).run Try.prog w = .ok (.int .u32 who) w := fun _ => by kernel_rfl
  have i1 : ∀ w, (Instr.index 58 (.agg #[.int .u32 who, .int .u32 whom, .int .u32 what, .int .u32 id]) (.int .i64 1)).run Try.prog w = .ok (.int .u32 whom) w := fun _ => by kernel_rfl
  have i2 : ∀ w, (Instr.index 58 (.agg #[.int .u32 who, .int .u32 whom, .int .u32 what, .int .u32 id]) (.int .i64 2)).run Try.prog w = .ok (.int .u32 what) w := fun _ => by kernel_rfl
  have i3 : ∀ w, (Instr.index 58 (.agg #[.int .u32 who, .int .u32 whom, .int .u32 what, .int .u32 id]) (.int .i64 3)).run Try.prog w = .ok (.int .u32 id) w := fun _ => by kernel_rfl
  obtain ⟨hw0, hb0, hsz, hcs⟩ := wr_start w #[.int .u8 k, .int .u32 n, .int .u8 ok, .int .u32 who, .int .u32 whom, .int .u32 what, .int .u32 id, .int .u64 on, .int .u64 pr] 27
  go_enter Try.func12, Try.ntmps12
  go_wp2_with fail
  generalize World.alloc (World.alloc w _) _ = W0 at *
  refine (number_any k 1 (by omega) (by omega) (by omega) W0 _ _ _ hw0 (by simp)).mono ?_
  rintro e w1 ⟨rfl, hw1⟩
  have hc1 := fun o => (hw1.cell (b := w.heap.size) (by omega) (by omega) o).trans (hcs o)
  clear hw0
  go_wp2_with fail
  refine (number_any n 4 (by omega) (by omega) (by omega) W0 _ _ _ hw1 (by simp [putF_length])).mono ?_
  rintro e w2 ⟨rfl, hw2⟩
  have hc2 := fun o => (hw2.cell (b := w.heap.size) (by omega) (by omega) o).trans (hcs o)
  clear hw1 hc1
  go_wp2_with fail
  refine (number_any ok 1 (by omega) (by omega) (by omega) W0 _ _ _ hw2 (by simp [putF_length])).mono ?_
  rintro e w3 ⟨rfl, hw3⟩
  have hc3 := fun o => (hw3.cell (b := w.heap.size) (by omega) (by omega) o).trans (hcs o)
  clear hw2 hc2
  go_wp2_with fail
  obtain ⟨L3, hL3⟩ : ∃ L3, [] ++ putF 1 k ++ putF 4 n ++ putF 1 ok = L3 := ⟨_, rfl⟩
  rw [hL3] at hw3
  have hl3 : L3.length = 6 := by rw [← hL3]; simp [putF_length]
  replace hL3 := Lib.hid hL3
  clear hc3
  go_loopw [5, 32] (fun _ i wr => ∃ j : Nat, j ≤ 4 ∧ i = .int .i64 j ∧ Wr W0 (w.heap.size + 1) (L3 ++ ([who, whom, what, id].take j).flatMap (putF 4)) wr) (fun _ i _ => 4 - (intOf i).toNat)
  case atStart => exact ⟨0, by omega, rfl, by simpa using hw3⟩
  case round =>
    obtain ⟨j, hj, rfl, hw⟩ := hrel
    clear hw3
    rcases (show j = 0 ∨ j = 1 ∨ j = 2 ∨ j = 3 ∨ j = 4 by omega) with rfl | rfl | rfl | rfl | rfl
    · go_wp2_with fail
      refine (number_any who 4 (by omega) (by omega) (by omega) W0 _ _ _ hw (by simp [putF_length, hl3])).mono ?_
      rintro e w4 ⟨rfl, hw4⟩
      go_wp2_with fail
      go_roundw
      case rel => exact ⟨1, by omega, rfl, by simpa using hw4⟩
      case measure => simp [intOf]
    · go_wp2_with fail
      refine (number_any whom 4 (by omega) (by omega) (by omega) W0 _ _ _ hw (by simp [putF_length, hl3])).mono ?_
      rintro e w4 ⟨rfl, hw4⟩
      go_wp2_with fail
      go_roundw
      case rel => exact ⟨2, by omega, rfl, by simpa using hw4⟩
      case measure => simp [intOf]
    · go_wp2_with fail
      refine (number_any what 4 (by omega) (by omega) (by omega) W0 _ _ _ hw (by simp [putF_length, hl3])).mono ?_
      rintro e w4 ⟨rfl, hw4⟩
      go_wp2_with fail
      go_roundw
      case rel => exact ⟨3, by omega, rfl, by simpa using hw4⟩
      case measure => simp [intOf]
    · go_wp2_with fail
      refine (number_any id 4 (by omega) (by omega) (by omega) W0 _ _ _ hw (by simp [putF_length, hl3])).mono ?_
      rintro e w4 ⟨rfl, hw4⟩
      go_wp2_with fail
      go_roundw
      case rel => exact ⟨4, by omega, rfl, by simpa using hw4⟩
      case measure => simp [intOf]
    · have hc4 := fun o => (hw.cell (b := w.heap.size) (by omega) (by omega) o).trans (hcs o)
      go_wp2_with fail
      refine (number_any on 8 (by omega) (by omega) (by omega) W0 _ _ _ hw (by simp [putF_length, hl3])).mono ?_
      rintro e w5 ⟨rfl, hw5⟩
      have hc5 := fun o => (hw5.cell (b := w.heap.size) (by omega) (by omega) o).trans (hcs o)
      clear hw hc4
      go_wp2_with fail
      refine (number_any pr 8 (by omega) (by omega) (by omega) W0 _ _ _ hw5 (by simp [putF_length, hl3])).mono ?_
      rintro e w6 ⟨rfl, hw6⟩
      clear hw5 hc5
      obtain ⟨A, c, hcell, hret⟩ := hw6.ret hb0 (by omega)
      have hask : L3 ++ ([who, whom, what, id].take 4).flatMap (putF 4) ++ putF 8 on ++ putF 8 pr = askL ⟨k, n, ok, who, whom, what, id, on, pr⟩ := by rw [← hL3.out]; simp [askL]
      rw [hask] at hcell hret
      clear hask hw6
      go_wp2_with fail
      go_ret
      exact hret
end Go.Proofs.Ytciidogbojbkiaa
