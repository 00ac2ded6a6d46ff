/- known of chapter 23, and the law CodecTells, walked. Conditions: none beyond what the rows say. -/
import Derived.Test.YtciidogbojbkiaaCodecArgs
import Derived.Test.YtciidogbojbkiaaCodecTell
import Derived.Test.YtciidogbojbkiaaCodecRTold
import Derived.Test.YtciidogbojbkiaaCodecRAsked
import Derived.Laws.NewBlocks
namespace Go.Proofs.Ytciidogbojbkiaa
open Go.ChangeShapes Go.WideShapes Go.ChangeAt Go.RowKit
open NumMath
set_option linter.unusedVariables false
set_option linter.unusedSimpArgs false
set_option maxRecDepth 20000
attribute [local go_sem ↓] Go.wp_at_zero Go.wp_at_succ

theorem known_ask : askL ⟨1, 0, 0, 0, 0, 0, 0, 0, 0⟩ = 1 :: List.replicate 37 0 := by decide
set_option maxHeartbeats 2000000 in
theorem known_any (w : World) : Calls Try.prog 7 #[] w fun e w' => e = .returned (.bool true) ∧ Below w.heap.size w w' := by
  obtain ⟨i0, hi0, hz0, hz1, hz2⟩ := info_parts u8_info
  have hask := ask_any ⟨1, 0, 0, 0, 0, 0, 0, 0, 0⟩ ⟨by decide, by decide, by decide, by decide, by decide, by decide, by decide, by decide, by decide⟩
  rw [known_ask] at hask
  go_enter Try.func7, Try.ntmps7
  go_wp2_with fail
  refine (hask _).mono ?_
  intro e w1 hret
  obtain ⟨A1, c1, rfl, -, hb1, hx1⟩ := hret.is
  obtain ⟨b, o, rfl, hbB, q0, -⟩ := hx1.at_ (k := 0) (by simp)
  obtain ⟨b', o', e', -, q37, -⟩ := hx1.at_ (k := 37) (by simp)
  injection e' with e'
  injection e' with e1 e2
  subst e1
  subst e2
  simp only [List.getElem_cons_zero, List.getElem_cons_succ, List.getElem_replicate, List.length_cons, List.length_replicate, Nat.add_zero] at q0 q37 ⊢
  clear hret hx1 hask
  go_wp2_with (at_make; refine wpList_make_full _ rfl _ _ 28 rfl w1.heap.size 5 i0 _ 1 Try.underlying28 hi0 hz0 hz1 .i64 .i64 _ _ 37 rfl rfl rfl rfl (by rw [hz2]; omega) (by unfold maxLen; omega) (Nat.le_refl _) ?_; intro w2 hown2 hg2)
  have hb2 : Below w1.heap.size w1 w2 := (Below.refl _ _).grown hg2 (Nat.le_refl _) (by simp)
  have hown2 : w2.ownsRow w1.heap.size 5 1 (.slice (some ⟨w1.heap.size, 0, none⟩) 37 37) 37 ((List.replicate 37 0).map byteV) := by
    have e : (madeCells (Value.int .u8 0).cells (37 * 1)).toList = (List.replicate 37 0).map byteV := by
      rw [Nat.mul_one, List.map_replicate]
      exact toList_madeCells_one _ 37
    rw [← e]
    exact hown2
  have hx2 := own_bytes hown2 (replicate_small 37)
  have hasked := asked_any _ 37 _ w2 hx2 (by simp) (by simp)
  have hC : askedC (List.replicate 37 0) = (Req.zero, 230) := by unfold askedC; rw [if_neg (by simp)]
  rw [hC, List.length_replicate, reqV_zero] at hasked
  clear hown2 hx2 hg2 hC
  refine hasked.mono ?_
  rintro e w3 ⟨rfl, hb3⟩
  clear hasked
  have hb13 := hb2.trans (hb3.mono hb2.size)
  have p0 := (hb13.cell (p := ⟨b, o, none⟩) hbB).trans q0
  have p37 := (hb13.cell (p := ⟨b, o + 37, none⟩) hbB).trans q37
  have hbw := hb1.trans (hb13.mono hb1.size)
  have hlt := World.block_lt_of_cell? w3 _ p0
  have hA := fun O => (Below.refl w3.heap.size w3).alloc (Nat.le_refl _) O
  have p0' := fun O => ((hA O).cell (p := ⟨b, o, none⟩) hlt).trans p0
  have p37' := fun O => ((hA O).cell (p := ⟨b, o + 37, none⟩) hlt).trans p37
  have hbw' := fun O => hbw.trans ((hA O).mono hbw.size)
  clear q0 q37 hb13 hb1 hb2 hb3 hA p0 p37 hbw
  go_upto_region 3 with fail
  replace p0' := p0' (.cells #[.int .u8 0, .int .u32 0, .int .u8 0, .int .u32 0, .int .u32 0, .int .u32 0, .int .u32 0, .int .u64 0, .int .u64 0] 27)
  replace p37' := p37' (.cells #[.int .u8 0, .int .u32 0, .int .u8 0, .int .u32 0, .int .u32 0, .int .u32 0, .int .u32 0, .int .u64 0, .int .u64 0] 27)
  replace hbw' := hbw' (.cells #[.int .u8 0, .int .u32 0, .int .u8 0, .int .u32 0, .int .u32 0, .int .u32 0, .int .u32 0, .int .u64 0, .int .u64 0] 27)
  generalize World.alloc w3 _ = w4 at *
  go_wp2
  go_ret
  exact ⟨rfl, hbw'⟩

theorem told_err {l : List Nat} {R : Rep} {E : Nat} (h : toldC l = (R, E)) : E < 1000 := by
  unfold toldC at h
  split at h <;> injection h with _ h <;> omega
theorem asked_err {l : List Nat} {R : Req} {E : Nat} (h : askedC l = (R, E)) : E < 1000 := by
  unfold askedC at h
  split at h <;> injection h with _ h <;> omega
set_option maxHeartbeats 4000000 in
theorem codecTells_walk (v0 : Value) (v1 : Value) (w : World) (w0 : IsRep w v0) (w1 : IsBytes w v1) :
    Calls Try.prog 5 #[v0, v1] w fun e w' => e = .returned (.bool true) ∧ Below w.heap.size w w' := by
  obtain ⟨r, rfl, hr⟩ := w0
  obtain ⟨A, c, l, rfl, hlc, hcm, hl⟩ := w1
  have htell := tell_any r hr
  have hrtell := reftell_any r hr
  obtain ⟨x, y, z, u⟩ := r
  unfold repV at htell hrtell ⊢
  have k0 := Blk.new w 42 #[.int .u16 x, .int .u64 y, .int .u64 z, .int .u64 u]
  have b0 : Below w.heap.size w (w.alloc (.cells #[.int .u16 x, .int .u64 y, .int .u64 z, .int .u64 u] 42)) := (Below.refl _ _).alloc (Nat.le_refl _) _
  rcases Nat.lt_or_ge 200 l.length with hlt | hge
  · have ht : decide ((200 : Int) < (l.length : Int)) = true := by rw [decide_eq_true_iff]; omega
    go_enter Try.func5, Try.ntmps5
    go_wp2_with (go_at_call 7; refine (known_any _).mono ?_; rintro e w1 ⟨rfl, hb1⟩)
    go_ret
    exact ⟨rfl, b0.trans (hb1.mono b0.size)⟩
  have ht : decide ((200 : Int) < (l.length : Int)) = false := by rw [decide_eq_false_iff_not]; omega
  have hlt0 : w.heap.size < (w.alloc (.cells #[.int .u16 x, .int .u64 y, .int .u64 z, .int .u64 u] 42)).heap.size := k0.lt
  go_enter Try.func5, Try.ntmps5
  go_upto_region 1 with fail
  generalize World.alloc w _ = W0 at *
  go_wp2_with fail
  refine (known_any _).mono ?_
  rintro e w1 ⟨rfl, hb1⟩
  have k1 := k0.below hb1 hlt0
  have b1 := b0.trans (hb1.mono b0.size)
  clear k0 b0 hb1
  go_wp2_with fail
  have htold := told_any A c l w1 ((hl.below b1).more b1.size) hlc (by omega)
  obtain ⟨R, E, hRE⟩ : ∃ R E, toldC l = (R, E) := ⟨_, _, rfl⟩
  have hE := told_err hRE
  have hwE : (IntKind.i64.wrap (E : Int) == (E : Int)) = true := by rw [IntKind.wrap_i64, beq_iff_eq]; omega
  obtain ⟨e1, e2, e3, e4⟩ := R
  rw [hRE] at htold
  simp only [repV] at htold
  refine htold.mono ?_
  rintro e w2 ⟨rfl, hb2⟩
  clear htold
  have k2 := k1.below hb2 k1.lt
  have b2 := b1.trans (hb2.mono b1.size)
  have k5 := Blk.new w2 42 #[.int .u16 e1, .int .u64 e2, .int .u64 e3, .int .u64 e4]
  have k2' := k2.alloc (.cells #[.int .u16 e1, .int .u64 e2, .int .u64 e3, .int .u64 e4] 42)
  have b2' := b2.alloc b2.size (.cells #[.int .u16 e1, .int .u64 e2, .int .u64 e3, .int .u64 e4] 42)
  clear k1 b1 hb2 k2 b2
  go_upto_region 4 with fail
  generalize World.alloc w2 _ = W3 at *
  generalize w2.heap.size = g5 at *
  have hrtold := reftold_any A c l W3 ((hl.below b2').more b2'.size) hlc (by omega)
  rw [hRE] at hrtold
  simp only [repV] at hrtold
  go_wp2_with fail
  refine hrtold.mono ?_
  rintro e w4 ⟨rfl, hb4⟩
  clear hrtold
  have k24 := (k2'.below hb4 k2'.lt).alloc (.cells #[.int .u16 e1, .int .u64 e2, .int .u64 e3, .int .u64 e4] 42)
  have k54 := (k5.below hb4 k5.lt).alloc (.cells #[.int .u16 e1, .int .u64 e2, .int .u64 e3, .int .u64 e4] 42)
  have k74 := Blk.new w4 42 #[.int .u16 e1, .int .u64 e2, .int .u64 e3, .int .u64 e4]
  have b4 := b2'.trans (hb4.mono b2'.size)
  have b5 := b4.alloc b4.size (.cells #[.int .u16 e1, .int .u64 e2, .int .u64 e3, .int .u64 e4] 42)
  clear k2' k5 hb4 b4 b2'
  go_upto_region 5 with fail
  generalize World.alloc w4 _ = W5 at *
  generalize w4.heap.size = g7 at *
  have q2 := k24.cell
  have q5 := k54.cell
  have q7 := k74.cell
  have heq : ∀ W, (binOp .eql 42 (.agg #[.int .u16 e1, .int .u64 e2, .int .u64 e3, .int .u64 e4]) (.agg #[.int .u16 e1, .int .u64 e2, .int .u64 e3, .int .u64 e4])).run Try.prog W = .ok (.bool true) W := fun W => by
    have := rep_eql W ⟨e1, e2, e3, e4⟩ ⟨e1, e2, e3, e4⟩
    rwa [decide_eq_true rfl] at this
  go_region_held3 (fun w' => (∀ o, w'.cell? ⟨w.heap.size, o, none⟩ = (#[.int .u16 x, .int .u64 y, .int .u64 z, .int .u64 u] : Array Value)[o]?) ∧ (∀ o, w'.cell? ⟨g5, o, none⟩ = (#[.int .u16 e1, .int .u64 e2, .int .u64 e3, .int .u64 e4] : Array Value)[o]?) ∧ (∀ o, w'.cell? ⟨g7, o, none⟩ = (#[.int .u16 e1, .int .u64 e2, .int .u64 e3, .int .u64 e4] : Array Value)[o]?))
    (first | go_keep | exact ⟨q2, q5, q7⟩ | exact ⟨q21, q51, q71⟩ | exact ⟨q22, q52, q72⟩ | fail)
    (first
      | ((with_reducible refine (htell _).mono ?_); intro e w6 hret6; obtain ⟨A6, c6, rfl, -, hb6, hx6⟩ := hret6.is; clear hret6; have k21 := k24.drew.below hb6 k24.lt; have k51 := k54.drew.below hb6 k54.lt; have k71 := k74.drew.below hb6 k74.lt; have q21 := k21.cell; have q51 := k51.cell; have q71 := k71.cell)
      | ((with_reducible refine (hrtell _).mono ?_); intro e w7 hret7; obtain ⟨A7, c7, rfl, -, hb7, hx7⟩ := hret7.is; clear hret7; have k22 := k21.below hb7 k21.lt; have k52 := k51.below hb7 k51.lt; have k72 := k71.below hb7 k71.lt; have q22 := k22.cell; have q52 := k52.cell; have q72 := k72.cell)
      | ((with_reducible refine (same_any A6 A7 c6 c7 _ _ w7.heap.size w7 ((hx6.below hb7).more hb7.size) hx7).mono ?_); rintro e w8 ⟨rfl, rfl⟩)
      | fail)
  all_goals
    go_wp2
    go_ret
    exact ⟨rfl, ((b5.drew).trans (hb6.mono b5.size)).trans (hb7.mono (Nat.le_trans b5.size hb6.size))⟩
end Go.Proofs.Ytciidogbojbkiaa
