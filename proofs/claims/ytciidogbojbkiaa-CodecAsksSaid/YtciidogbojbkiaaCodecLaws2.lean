/- The law CodecAsks, walked. Conditions: none beyond what the row says. -/
import Derived.Test.YtciidogbojbkiaaCodecLaws
namespace Go.Proofs.Ytciidogbojbkiaa
open Go.ChangeShapes Go.WideShapes Go.ChangeAt Go.RowKit
open NumMath
set_option linter.unusedVariables false
set_option linter.unusedSimpArgs false
set_option maxRecDepth 20000
attribute [local go_sem ↓] Go.wp_at_zero Go.wp_at_succ

theorem bytes_drew {w : World} {B : Nat} {A : Option Addr} {l : List Nat} (h : Bytes w B A l) : Bytes w.drew B A l := h
set_option maxHeartbeats 4000000 in
theorem codecAsks_walk (v0 : Value) (v1 : Value) (w : World) (w0 : IsReq w v0) (w1 : IsBytes w v1) :
    Calls Try.prog 3 #[v0, v1] w fun e w' => e = .returned (.bool true) ∧ Below w.heap.size w w' := by
  obtain ⟨r, rfl, hr⟩ := w0
  obtain ⟨A, c, l, rfl, hlc, hcm, hl⟩ := w1
  have hask := ask_any r hr
  have hrask := refask_any r hr
  obtain ⟨k, n, ok, who, whom, what, id, on, pr⟩ := r
  unfold reqV at hask hrask ⊢
  have k0 := Blk.new w 27 #[.int .u8 k, .int .u32 n, .int .u8 ok, .int .u32 who, .int .u32 whom, .int .u32 what, .int .u32 id, .int .u64 on, .int .u64 pr]
  have b0 : Below w.heap.size w (w.alloc (.cells #[.int .u8 k, .int .u32 n, .int .u8 ok, .int .u32 who, .int .u32 whom, .int .u32 what, .int .u32 id, .int .u64 on, .int .u64 pr] 27)) := (Below.refl _ _).alloc (Nat.le_refl _) _
  rcases Nat.lt_or_ge 200 l.length with hlt | hge
  · have ht : decide ((200 : Int) < (l.length : Int)) = true := by rw [decide_eq_true_iff]; omega
    go_enter Try.func3, Try.ntmps3
    go_wp2_with (go_at_call 7; refine (known_any _).mono ?_; rintro e w1 ⟨rfl, hb1⟩)
    go_ret
    exact ⟨rfl, b0.trans (hb1.mono b0.size)⟩
  have ht : decide ((200 : Int) < (l.length : Int)) = false := by rw [decide_eq_false_iff_not]; omega
  have hlt0 : w.heap.size < (w.alloc (.cells #[.int .u8 k, .int .u32 n, .int .u8 ok, .int .u32 who, .int .u32 whom, .int .u32 what, .int .u32 id, .int .u64 on, .int .u64 pr] 27)).heap.size := k0.lt
  go_enter Try.func3, Try.ntmps3
  go_upto_region 1 with fail
  generalize World.alloc w _ = W0 at *
  go_wp2_with fail
  refine (known_any _).mono ?_
  rintro e w0 ⟨rfl, hb0⟩
  have k0' := k0.below hb0 hlt0
  have b0' := b0.trans (hb0.mono b0.size)
  clear k0 b0 hb0
  go_wp2_with fail
  refine (lent_any A c l w0.heap.size w0 ((hl.below b0').more b0'.size) (by omega)).mono ?_
  rintro e w1 ⟨A1, c1, rfl, hown1, hb1⟩
  have k1 := k0'.below hb1 k0'.lt
  have b1 := b0'.trans (hb1.mono b0'.size)
  have hx := own_bytes hown1 hl.2
  have hlc1 := own_cap hown1
  clear k0' b0' hb1 hown1
  go_wp2_with fail
  have hasked := asked_any A1 c1 l w1 hx hlc1 (by omega)
  obtain ⟨R, E, hRE⟩ : ∃ R E, askedC l = (R, E) := ⟨_, _, rfl⟩
  have hE := asked_err hRE
  have hwE : (IntKind.i64.wrap (E : Int) == (E : Int)) = true := by rw [IntKind.wrap_i64, beq_iff_eq]; omega
  obtain ⟨r1, r2, r3, r4, r5, r6, r7, r8, r9⟩ := R
  rw [hRE] at hasked
  simp only [reqV] at hasked
  refine hasked.mono ?_
  rintro e w2 ⟨rfl, hb2⟩
  clear hasked
  have k2 := k1.below hb2 k1.lt
  have b2 := b1.trans (hb2.mono b1.size)
  have k5 := Blk.new w2 27 #[.int .u8 r1, .int .u32 r2, .int .u8 r3, .int .u32 r4, .int .u32 r5, .int .u32 r6, .int .u32 r7, .int .u64 r8, .int .u64 r9]
  have k2' := k2.alloc (.cells #[.int .u8 r1, .int .u32 r2, .int .u8 r3, .int .u32 r4, .int .u32 r5, .int .u32 r6, .int .u32 r7, .int .u64 r8, .int .u64 r9] 27)
  have b2' := b2.alloc b2.size (.cells #[.int .u8 r1, .int .u32 r2, .int .u8 r3, .int .u32 r4, .int .u32 r5, .int .u32 r6, .int .u32 r7, .int .u64 r8, .int .u64 r9] 27)
  have hx2 := (hx.below hb2).alloc hb2.size (.cells #[.int .u8 r1, .int .u32 r2, .int .u8 r3, .int .u32 r4, .int .u32 r5, .int .u32 r6, .int .u32 r7, .int .u64 r8, .int .u64 r9] 27)
  have hz2 : w1.heap.size ≤ (w2.alloc (.cells #[.int .u8 r1, .int .u32 r2, .int .u8 r3, .int .u32 r4, .int .u32 r5, .int .u32 r6, .int .u32 r7, .int .u64 r8, .int .u64 r9] 27)).heap.size := by rw [World.size_alloc]; have := hb2.size; omega
  clear k1 b1 hb2 k2 b2 hx
  go_upto_region 5 with fail
  generalize World.alloc w2 _ = W3 at *
  generalize w2.heap.size = g5 at *
  have hrasked := refasked_any A c l W3 ((hl.below b2').more b2'.size) hlc (by omega)
  rw [hRE] at hrasked
  simp only [reqV] at hrasked
  go_wp2_with fail
  refine hrasked.mono ?_
  rintro e w4 ⟨rfl, hb4⟩
  clear hrasked
  have k24 := (k2'.below hb4 k2'.lt).alloc (.cells #[.int .u8 r1, .int .u32 r2, .int .u8 r3, .int .u32 r4, .int .u32 r5, .int .u32 r6, .int .u32 r7, .int .u64 r8, .int .u64 r9] 27)
  have k54 := (k5.below hb4 k5.lt).alloc (.cells #[.int .u8 r1, .int .u32 r2, .int .u8 r3, .int .u32 r4, .int .u32 r5, .int .u32 r6, .int .u32 r7, .int .u64 r8, .int .u64 r9] 27)
  have k74 := Blk.new w4 27 #[.int .u8 r1, .int .u32 r2, .int .u8 r3, .int .u32 r4, .int .u32 r5, .int .u32 r6, .int .u32 r7, .int .u64 r8, .int .u64 r9]
  have b4 := b2'.trans (hb4.mono b2'.size)
  have b5 := b4.alloc b4.size (.cells #[.int .u8 r1, .int .u32 r2, .int .u8 r3, .int .u32 r4, .int .u32 r5, .int .u32 r6, .int .u32 r7, .int .u64 r8, .int .u64 r9] 27)
  have hx5 := ((hx2.more hz2).below hb4).alloc hb4.size (.cells #[.int .u8 r1, .int .u32 r2, .int .u8 r3, .int .u32 r4, .int .u32 r5, .int .u32 r6, .int .u32 r7, .int .u64 r8, .int .u64 r9] 27)
  have hz5 : W3.heap.size ≤ (w4.alloc (.cells #[.int .u8 r1, .int .u32 r2, .int .u8 r3, .int .u32 r4, .int .u32 r5, .int .u32 r6, .int .u32 r7, .int .u64 r8, .int .u64 r9] 27)).heap.size := by rw [World.size_alloc]; have := hb4.size; omega
  clear k2' k5 hb4 b4 b2' hx2 hz2
  go_upto_region 6 with fail
  generalize World.alloc w4 _ = W5 at *
  generalize w4.heap.size = g7 at *
  have q2 := k24.cell
  have q5 := k54.cell
  have q7 := k74.cell
  have heq : ∀ W, (binOp .eql 27 (.agg #[.int .u8 r1, .int .u32 r2, .int .u8 r3, .int .u32 r4, .int .u32 r5, .int .u32 r6, .int .u32 r7, .int .u64 r8, .int .u64 r9]) (.agg #[.int .u8 r1, .int .u32 r2, .int .u8 r3, .int .u32 r4, .int .u32 r5, .int .u32 r6, .int .u32 r7, .int .u64 r8, .int .u64 r9])).run Try.prog W = .ok (.bool true) W := fun W => by
    have := req_eql W ⟨r1, r2, r3, r4, r5, r6, r7, r8, r9⟩ ⟨r1, r2, r3, r4, r5, r6, r7, r8, r9⟩
    rwa [decide_eq_true rfl] at this
  go_region_held3 (fun w' => (∀ o, w'.cell? ⟨w.heap.size, o, none⟩ = (#[.int .u8 k, .int .u32 n, .int .u8 ok, .int .u32 who, .int .u32 whom, .int .u32 what, .int .u32 id, .int .u64 on, .int .u64 pr] : Array Value)[o]?) ∧ (∀ o, w'.cell? ⟨g5, o, none⟩ = (#[.int .u8 r1, .int .u32 r2, .int .u8 r3, .int .u32 r4, .int .u32 r5, .int .u32 r6, .int .u32 r7, .int .u64 r8, .int .u64 r9] : Array Value)[o]?) ∧ (∀ o, w'.cell? ⟨g7, o, none⟩ = (#[.int .u8 r1, .int .u32 r2, .int .u8 r3, .int .u32 r4, .int .u32 r5, .int .u32 r6, .int .u32 r7, .int .u64 r8, .int .u64 r9] : Array Value)[o]?))
    (first | go_keep | exact ⟨q2, q5, q7⟩ | exact ⟨q21, q51, q71⟩ | exact ⟨q22, q52, q72⟩ | fail)
    (first
      | ((with_reducible refine (hask _).mono ?_); intro e w6 hret6; obtain ⟨A6, c6, rfl, -, hb6, hx6⟩ := hret6.is; clear hret6; have k21 := k24.drew.below hb6 k24.lt; have k51 := k54.drew.below hb6 k54.lt; have k71 := k74.drew.below hb6 k74.lt; have q21 := k21.cell; have q51 := k51.cell; have q71 := k71.cell)
      | ((with_reducible refine (hrask _).mono ?_); intro e w7 hret7; obtain ⟨A7, c7, rfl, -, hb7, hx7⟩ := hret7.is; clear hret7; have k22 := k21.below hb7 k21.lt; have k52 := k51.below hb7 k51.lt; have k72 := k71.below hb7 k71.lt; have q22 := k22.cell; have q52 := k52.cell; have q72 := k72.cell; have b7 := ((b5.drew).trans (hb6.mono b5.size)).trans (hb7.mono (Nat.le_trans b5.size hb6.size)); have s1 := (same_any A6 A7 c6 c7 _ _ w7.heap.size w7 ((hx6.below hb7).more hb7.size) hx7); have s2 := (same_any A1 A c1 c l l w7.heap.size w7 (((bytes_drew (hx5.more hz5)).below (hb6.trans (hb7.mono hb6.size))).more (Nat.le_trans hb6.size hb7.size)) ((hl.below b7).more b7.size)); (rw [decide_eq_true rfl] at s1 s2))
      | ((with_reducible refine s1.mono ?_); rintro e w8 ⟨rfl, rfl⟩)
      | ((with_reducible refine s2.mono ?_); rintro e w8 ⟨rfl, rfl⟩)
      | fail)
  all_goals
    go_wp2
    go_ret
    exact ⟨rfl, b7⟩
end Go.Proofs.Ytciidogbojbkiaa
