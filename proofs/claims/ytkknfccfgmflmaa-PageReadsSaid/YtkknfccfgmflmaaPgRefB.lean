/- page: the document's Bytes. Conditions: its page lies there. -/
import Derived.Test.YtkknfccfgmflmaaPgRefS
import Derived.Test.YtkknfccfgmflmaaRB
namespace Go.Proofs.Ytkknfccfgmflmaa
open Go.ChangeShapes Go.WideShapes Go.ChangeAt Go.RowKit
open NumMath
set_option linter.unusedVariables false
set_option linter.unusedSimpArgs false
set_option maxRecDepth 20000

theorem refputn_any (n m : Nat) (w : World) (h1 : n < 18446744073709551616) (h2 : 1 ≤ m) (h3 : m ≤ 8) : Calls Try.prog 60 #[.int .u64 n, .int .i64 m] w fun e w' => ∃ A c, e = .returned (.slice A m c) ∧ w'.ownsRow w.heap.size 5 1 (.slice A m c) m ((putF m n).map byteV) ∧ Below w.heap.size w w' := by
  have h := refput_any n m w h1 (by omega) (by omega)
  have hp : putB n (m : Int) = putF m n := by
    unfold putB
    rw [if_pos ⟨by omega, by omega⟩]
    rfl
  rw [hp] at h
  refine h.mono ?_
  rintro e w' ⟨A, c, he, ho, hb, -⟩
  rw [putF_length] at he ho
  exact ⟨A, c, he, ho, hb⟩
section
variable {w : World} {gr : Nat} {r : RP}
set_option maxHeartbeats 8000000 in
theorem rbytes_any (h : RAt w gr r) :
    Calls Try.prog 48 #[.pointer (some ⟨gr, 0, none⟩)] w (RetBytes 5 (bytesR r) w) := by
  have hl64 := h.l64
  have hn32 := h.n32
  have hfit := h.fit
  have hsm := h.small
  have hT := topN_le r.S 40
  have hL := lowS_le r 40
  have hat := fun (W : World) (hb : Below w.heap.size w W) => h.below hb
  have cL := rpc_L h.blk
  have hh : headL r = putF 8 r.L ++ putF 4 r.N ++ putF 2 (topN r.S 40) ++ putF 2 (lowS r 40) := rfl
  have hbr : bytesR r = headL r ++ entL r (topN r.S 40) ++ cut r.B (16 + 4 * topN r.S 40) (448 - (16 + 4 * topN r.S 40)) := rfl
  have cC := fun (W : World) (hb : Below w.heap.size w W) => rcount_any (h.below hb)
  have cW := fun (W : World) (hb : Below w.heap.size w W) => rlow_any (h.below hb)
  have hent : ∀ k, entL r (k + 1) = entL r k ++ putF 2 (r.O k) ++ putF 2 (r.S k) := fun k => rfl
  rw [hbr]
  clear h hbr
  generalize lowS r 40 = lw at *
  generalize topN r.S 40 = T at *
  have v1 : IntKind.u64.wrap (r.N : Int) = (r.N : Int) := by rw [IntKind.wrap_u64]; omega
  have v2 : IntKind.u64.wrap (T : Int) = (T : Int) := by rw [IntKind.wrap_u64]; omega
  have v3 : IntKind.u64.wrap (lw : Int) = (lw : Int) := by rw [IntKind.wrap_u64]; omega
  go_enter Try.func48, Try.ntmps48
  go_wp2_with fail
  refine (refputn_any r.L 8 w hl64 (by omega) (by omega)).mono ?_
  rintro e w1 ⟨A1, c1, rfl, o1, b1⟩
  have r1 : RB w w1 A1 8 c1 (putF 8 r.L) := RB.of_ret (Below.refl _ _) o1 b1 (putF_small _ _) (putF_length _ _)
  have cN := rpc_N (hat w1 b1).blk
  clear o1 b1 cL
  go_wp2_with fail
  refine (refputn_any r.N 4 w1 (by omega) (by omega) (by omega)).mono ?_
  rintro e w2 ⟨A2, c2, rfl, o2, b2⟩
  have q2 := r1.keep b2
  have x2 := own_bytes o2 (putF_small 4 r.N)
  clear o2 b2 r1 cN
  go_wp2_with (at_builtin; refine wpList_append_rb rfl _ _ 24 24 rfl Try.underlying24 Try.underlying24 q2 rfl w2.heap.size A2 4 c2 (putF 4 r.N) rfl x2 (putF_length _ _) (by omega) ?_; intro A3 c3 w3 r3; clear q2 x2)
  refine (cC w3 r3.2.1).mono ?_
  rintro e w4 ⟨rfl, rfl⟩
  clear cC
  go_wp2_with fail
  refine (refputn_any T 2 w3 (by omega) (by omega) (by omega)).mono ?_
  rintro e w5 ⟨A5, c5, rfl, o5, b5⟩
  have q5 := r3.keep b5
  have x5 := own_bytes o5 (putF_small 2 T)
  clear o5 b5 r3
  go_wp2_with (at_builtin; refine wpList_append_rb rfl _ _ 24 24 rfl Try.underlying24 Try.underlying24 q5 rfl w5.heap.size A5 2 c5 (putF 2 T) rfl x5 (putF_length _ _) (by omega) ?_; intro A6 c6 w6 r6; clear q5 x5)
  refine (cW w6 r6.2.1).mono ?_
  rintro e w7 ⟨rfl, rfl⟩
  clear cW
  go_wp2_with fail
  refine (refputn_any lw 2 w6 (by omega) (by omega) (by omega)).mono ?_
  rintro e w8 ⟨A8, c8, rfl, o8, b8⟩
  have q8 := r6.keep b8
  have x8 := own_bytes o8 (putF_small 2 lw)
  clear o8 b8 r6
  go_wp2_with (at_builtin; refine wpList_append_rb rfl _ _ 24 24 rfl Try.underlying24 Try.underlying24 q8 rfl w8.heap.size A8 2 c8 (putF 2 lw) rfl x8 (putF_length _ _) (by omega) ?_; intro A9 c9 w9 r9; clear q8 x8)
  rw [← hh] at r9
  clear hh
  go_loopw [3, 5] (fun bv iv wr => ∃ k n A c, k ≤ T ∧ n = 16 + 4 * k ∧ iv = .int .i64 (k : Nat) ∧ bv = .slice A n c ∧ RB w wr A n c (headL r ++ entL r k)) (fun _ iv _ => T - (intOf iv).toNat)
  case atStart => exact ⟨0, 16, A9, c9, Nat.zero_le _, rfl, rfl, rfl, by rw [show entL r 0 = [] from rfl, List.append_nil]; exact r9⟩
  case round =>
    clear r9
    obtain ⟨k, n, A, c, hk, hn, rfl, rfl, hr⟩ := hrel
    rcases Nat.lt_or_ge k T with hlt | hge
    · have e1 : decide ((k : Int) < (T : Int)) = true := by rw [decide_eq_true_iff]; omega
      have e2 : (0 : Int) ≤ (k : Int) := by omega
      have e3 : (k : Int) < 40 := by omega
      have cO := rpc_O (hat wr hr.2.1).blk (show k < 40 by omega)
      have hf := hfit k (by omega)
      have hS : ∀ W, Below w.heap.size w W → W.cell? ⟨gr, 42 + k, none⟩ = some (.int .i64 (r.S k : Nat)) := fun W hb => rpc_S (hat W hb).blk (by omega)
      have hen := hent k
      generalize hH : headL r ++ entL r k = H at *
      have hH2 : headL r ++ entL r (k + 1) = H ++ putF 2 (r.O k) ++ putF 2 (r.S k) := by rw [hen, ← hH]; simp only [List.append_assoc]
      have HH := Lib.hid (And.intro hn hH2)
      clear hH hH2 hen hn
      generalize r.O k = x at *
      generalize r.S k = y at *
      have u1 : IntKind.u64.wrap (x : Int) = (x : Int) := by rw [IntKind.wrap_u64]; omega
      have u2 : IntKind.u64.wrap (y : Int) = (y : Int) := by rw [IntKind.wrap_u64]; omega
      have hn2 : n ≤ 176 := by have := HH.out.1; omega
      go_wp2_with fail
      refine (refputn_any x 2 wr (by omega) (by omega) (by omega)).mono ?_
      rintro e w2 ⟨A2, c2, rfl, o2, b2⟩
      have q2 := hr.keep b2
      have x2 := own_bytes o2 (putF_small 2 x)
      clear o2 b2 hr cO
      go_wp2_with (at_builtin; refine wpList_append_rb rfl _ _ 24 24 rfl Try.underlying24 Try.underlying24 q2 rfl w2.heap.size A2 2 c2 (putF 2 x) rfl x2 (putF_length _ _) (by omega) ?_; intro A3 c3 w3 r3; have cS := hS w3 r3.2.1; clear q2 x2)
      refine (refputn_any y 2 w3 (by omega) (by omega) (by omega)).mono ?_
      rintro e w4 ⟨A4, c4, rfl, o4, b4⟩
      have q4 := r3.keep b4
      have x4 := own_bytes o4 (putF_small 2 y)
      clear o4 b4 r3 cS hS
      go_wp2_with (at_builtin; refine wpList_append_rb rfl _ _ 24 24 rfl Try.underlying24 Try.underlying24 q4 rfl w4.heap.size A4 2 c4 (putF 2 y) rfl x4 (putF_length _ _) (by omega) ?_; intro A5 c5 w5 r5; have R5 := Lib.hid r5; clear q4 x4 r5)
      go_roundw
      case rel => exact ⟨k + 1, n + 2 + 2, A5, c5, by omega, by have := HH.out.1; omega, by go_num, rfl, by rw [HH.out.2]; exact R5.out⟩
      case measure => simp [intOf]; omega
    · obtain rfl : k = T := by omega
      have e1 : decide ((k : Int) < (k : Int)) = false := by rw [decide_eq_false_iff_not]; omega
      clear hent hfit v1 v2 v3
      generalize hH : headL r ++ entL r k = H at *
      clear hH
      subst hn
      obtain ⟨q, hq⟩ : ∃ q, 16 + 4 * k = q := ⟨_, rfl⟩
      rw [hq] at hr ⊢
      have hq448 : q ≤ 448 := by omega
      have HQ := Lib.hid hq
      clear hq
      go_wp2_with fail
      go_loopw [3, 6] (fun bv iv wq => ∃ j A c, q ≤ j ∧ j ≤ 448 ∧ iv = .int .i64 (j : Nat) ∧ bv = .slice A j c ∧ RB w wq A j c (H ++ cut r.B q (j - q))) (fun _ iv _ => 448 - (intOf iv).toNat)
      case atStart => exact ⟨q, A, c, Nat.le_refl _, hq448, rfl, rfl, by rw [Nat.sub_self, show cut r.B q 0 = [] from rfl, List.append_nil]; exact hr⟩
      case round =>
        clear hr
        obtain ⟨j, A', c', hj1, hj2, rfl, rfl, hr⟩ := hrel
        rename World => wq
        rcases Nat.lt_or_ge j 448 with hjl | hjg
        · have e2 : decide ((j : Int) < 448) = true := by rw [decide_eq_true_iff]; omega
          have e3 : (0 : Int) ≤ (j : Int) := by omega
          have e4 : (j : Int) < 448 := by omega
          have cB := rpc_B (hat wq hr.2.1).blk hjl
          have hv := hsm j
          have hcn := cut_next r.B q (j - q)
          rw [show q + (j - q) = j by omega, show j - q + 1 = j + 1 - q by omega] at hcn
          generalize r.B j = v at *
          have HC := Lib.hid hcn
          clear hcn
          go_wp2_with (at_builtin; refine wpList_append_rb rfl _ _ 24 24 rfl Try.underlying24 Try.underlying24 (hr.alloc (.cells #[.int .u8 (v : Int)] 5)) rfl (wq.heap.size + 1) (some ⟨wq.heap.size, 0, none⟩) 1 1 [v] rfl (one_bytes wq hv) rfl (by omega) ?_; intro A5 c5 w5 r5; have R5 := Lib.hid r5; clear r5 hr)
          go_roundw
          case rel => exact ⟨j + 1, A5, c5, by omega, by omega, by go_num, rfl, by rw [← HC.out, ← List.append_assoc]; exact R5.out⟩
          case measure => simp [intOf]; omega
        · obtain rfl : j = 448 := by omega
          have e2 : decide (((448 : Nat) : Int) < 448) = false := rfl
          have FIN := Lib.hid (hr.ret (Below.refl _ _))
          clear hr
          go_wp2
          go_ret
          exact HQ.out ▸ FIN.out
end
end Go.Proofs.Ytkknfccfgmflmaa
