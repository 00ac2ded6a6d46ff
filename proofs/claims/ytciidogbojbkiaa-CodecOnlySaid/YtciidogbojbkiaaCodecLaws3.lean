/- The law CodecOnly, walked. Conditions: none beyond what the row says. -/
import Derived.Test.YtciidogbojbkiaaCodecLaws
import Derived.Test.YtciidogbojbkiaaRB
namespace Go.Proofs.Ytciidogbojbkiaa
open Go.ChangeShapes Go.WideShapes Go.ChangeAt Go.RowKit
open NumMath
set_option linter.unusedVariables false
set_option linter.unusedSimpArgs false
set_option maxRecDepth 20000

set_option maxHeartbeats 4000000 in
theorem codecOnly_walk (v0 : Value) (v1 : Value) (w : World) (w0 : IsBytes w v0) (w1 : IsInt .u8 w v1) :
    Calls Try.prog 4 #[v0, v1] w fun e w' => e = .returned (.bool true) ∧ Below w.heap.size w w' := by
  obtain ⟨A, c, l, rfl, hlc, hcm, hl⟩ := w0
  obtain ⟨a1, rfl, ha1⟩ := w1
  obtain ⟨y, rfl, hy⟩ := nat_u8 ha1
  rcases Nat.lt_or_ge 200 l.length with hlt | hge
  · have ht : decide ((200 : Int) < (l.length : Int)) = true := by rw [decide_eq_true_iff]; omega
    go_enter Try.func4, Try.ntmps4
    go_wp2_with (go_at_call 7; refine (known_any _).mono ?_; rintro e w1 ⟨rfl, hb1⟩)
    go_ret
    exact ⟨rfl, hb1⟩
  have ht : decide ((200 : Int) < (l.length : Int)) = false := by rw [decide_eq_false_iff_not]; omega
  by_cases hok : l.length = 38 ∧ mayR (askedL l) = true
  · obtain ⟨h38, hmay⟩ := hok
    have hfit := askedL_fits hl.2
    have hC : askedC l = (askedL l, 0) := by unfold askedC; rw [if_pos ⟨h38, hmay⟩]
    have hask := ask_any (askedL l) hfit
    rw [ask_asked h38 hl.2] at hask
    obtain ⟨R, hR⟩ : ∃ R, askedL l = R := ⟨_, rfl⟩
    rw [hR] at hC hask
    obtain ⟨r1, r2, r3, r4, r5, r6, r7, r8, r9⟩ := R
    simp only [reqV] at hask
    have hC2 : askedC (l ++ [y]) = (Req.zero, 230) := by unfold askedC; rw [if_neg (by simp; omega)]
    have hC3 : askedC (l.take 37) = (Req.zero, 230) := by unfold askedC; rw [if_neg (by simp; omega)]
    have h37 : (l.take 37).length = 37 := by simp; omega
    have hd1 : (37 : Int) ≤ (c : Int) := by omega
    clear hR hfit
    rw [h38] at ht ⊢
    go_enter Try.func4, Try.ntmps4
    go_wp2_with fail
    refine (known_any _).mono ?_
    rintro e w1 ⟨rfl, b1⟩
    go_wp2_with fail
    have hasked := asked_any A c l w1 ((hl.below b1).more b1.size) hlc (by omega)
    rw [hC, h38] at hasked
    simp only [reqV] at hasked
    refine hasked.mono ?_
    rintro e w2 ⟨rfl, hb2⟩
    clear hasked hC
    have b2 := b1.trans (hb2.mono b1.size)
    have k3 := Blk.new w2 27 #[.int .u8 r1, .int .u32 r2, .int .u8 r3, .int .u32 r4, .int .u32 r5, .int .u32 r6, .int .u32 r7, .int .u64 r8, .int .u64 r9]
    have b3 := b2.alloc b2.size (.cells #[.int .u8 r1, .int .u32 r2, .int .u8 r3, .int .u32 r4, .int .u32 r5, .int .u32 r6, .int .u32 r7, .int .u64 r8, .int .u64 r9] 27)
    clear b1 hb2 b2
    go_upto_region 4 with fail
    generalize World.alloc w2 _ = w3 at *
    generalize w2.heap.size = g at *
    have rb := RB.start w3
    have hl3 := (hl.below b3).more b3.size
    go_wp2_with (first
      | (at_builtin; refine wpList_append_rb rfl _ _ 28 28 rfl Try.underlying28 Try.underlying28 rb rfl w3.heap.size A 38 c l rfl hl3 h38 (by omega) ?_; intro A4 c4 w4 r4_; clear rb)
      | (at_builtin; refine wpList_append_rb rfl _ _ 28 28 rfl Try.underlying28 Try.underlying28 (r4_.alloc (.cells #[.int .u8 (y : Int)] 5)) rfl (w4.heap.size + 1) (some ⟨w4.heap.size, 0, none⟩) 1 1 [y] rfl (one_bytes w4 hy) rfl (by omega) ?_; intro A5 c5 w5 r5_; clear r4_)
      | fail)
    have hb5 := r5_.2.1
    have hx5 := r5_.bytes
    have hc5 := own_cap r5_.1
    simp only [List.nil_append, Nat.zero_add, Nat.reduceAdd] at hx5 hc5
    have hl5 : (l ++ [y]).length = 39 := by simp [h38]
    have b5 := b3.trans (hb5.mono b3.size)
    have k5 := k3.below hb5 k3.lt
    have hasked2 := asked_any A5 c5 (l ++ [y]) w5 hx5 (by omega) (by omega)
    rw [hC2, hl5, reqV_zero] at hasked2
    clear r5_ hb5 k3 b3 hx5 hl3
    refine hasked2.mono ?_
    rintro e w6 ⟨rfl, hb6⟩
    clear hasked2
    have b6 := (b5.trans (hb6.mono b5.size)).alloc (Nat.le_trans b5.size hb6.size) (.cells #[.int .u8 0, .int .u32 0, .int .u8 0, .int .u32 0, .int .u32 0, .int .u32 0, .int .u32 0, .int .u64 0, .int .u64 0] 27)
    have k6 := (k5.below hb6 k5.lt).alloc (.cells #[.int .u8 0, .int .u32 0, .int .u8 0, .int .u32 0, .int .u32 0, .int .u32 0, .int .u32 0, .int .u64 0, .int .u64 0] 27)
    clear b5 k5 hb6
    go_upto_region 10 with fail
    generalize World.alloc w6 _ = w7 at *
    have hasked3 := asked_any A c (l.take 37) w7 (((hl.below b6).take 37).more b6.size) (by omega) (by omega)
    rw [hC3, h37, reqV_zero] at hasked3
    go_wp2_with fail
    refine hasked3.mono ?_
    rintro e w8 ⟨rfl, hb8⟩
    clear hasked3
    have b8 := (b6.trans (hb8.mono b6.size)).alloc (Nat.le_trans b6.size hb8.size) (.cells #[.int .u8 0, .int .u32 0, .int .u8 0, .int .u32 0, .int .u32 0, .int .u32 0, .int .u32 0, .int .u64 0, .int .u64 0] 27)
    have k8 := (k6.below hb8 k6.lt).alloc (.cells #[.int .u8 0, .int .u32 0, .int .u8 0, .int .u32 0, .int .u32 0, .int .u32 0, .int .u32 0, .int .u64 0, .int .u64 0] 27)
    clear b6 k6 hb8
    go_upto_region 11 with fail
    generalize World.alloc w8 _ = w9 at *
    have q8 := k8.cell
    go_wp2_with fail
    refine (hask _).mono ?_
    intro e w10 hret
    obtain ⟨A10, c10, rfl, -, hb10, hx10⟩ := hret.is
    clear hret q8
    have b10 := b8.trans (hb10.mono b8.size)
    have s1 := same_any A10 A c10 c l l w10.heap.size w10 hx10 ((hl.below b10).more b10.size)
    rw [decide_eq_true rfl, h38] at s1
    rw [h38]
    go_wp2_with fail
    refine s1.mono ?_
    rintro e w11 ⟨rfl, rfl⟩
    go_wp2
    go_ret
    exact ⟨rfl, b10⟩
  · have hC : askedC l = (Req.zero, 230) := by unfold askedC; rw [if_neg hok]
    have heq : ∀ W, (binOp .eql 27 (.agg #[.int .u8 0, .int .u32 0, .int .u8 0, .int .u32 0, .int .u32 0, .int .u32 0, .int .u32 0, .int .u64 0, .int .u64 0]) (.agg #[.int .u8 0, .int .u32 0, .int .u8 0, .int .u32 0, .int .u32 0, .int .u32 0, .int .u32 0, .int .u64 0, .int .u64 0])).run Try.prog W = .ok (.bool true) W := fun W => by
      have := req_eql W Req.zero Req.zero
      rw [decide_eq_true rfl] at this
      exact this
    go_enter Try.func4, Try.ntmps4
    go_wp2_with fail
    refine (known_any _).mono ?_
    rintro e w1 ⟨rfl, b1⟩
    go_wp2_with fail
    have hasked := asked_any A c l w1 ((hl.below b1).more b1.size) hlc (by omega)
    rw [hC, reqV_zero] at hasked
    refine hasked.mono ?_
    rintro e w2 ⟨rfl, hb2⟩
    clear hasked hC
    have b2 := b1.trans (hb2.mono b1.size)
    have k3 := Blk.new w2 27 #[.int .u8 0, .int .u32 0, .int .u8 0, .int .u32 0, .int .u32 0, .int .u32 0, .int .u32 0, .int .u64 0, .int .u64 0]
    have b3 := b2.alloc b2.size (.cells #[.int .u8 0, .int .u32 0, .int .u8 0, .int .u32 0, .int .u32 0, .int .u32 0, .int .u32 0, .int .u64 0, .int .u64 0] 27)
    clear b1 hb2 b2
    go_upto_region 4 with fail
    generalize World.alloc w2 _ = w3 at *
    generalize w2.heap.size = g at *
    have q3 := k3.cell
    go_wp2
    go_ret
    exact ⟨rfl, b3⟩
end Go.Proofs.Ytciidogbojbkiaa
