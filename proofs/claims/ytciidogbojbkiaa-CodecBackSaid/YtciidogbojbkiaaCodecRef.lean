/- The contracts of the document's Ask and Tell. Conditions: numbers fit their kinds. Printed by gen_codec.py. -/
import Derived.Test.YtciidogbojbkiaaCodecAsk
import Derived.Test.YtciidogbojbkiaaRB
import Derived.Deep.DeepCutAuto
namespace Go.Proofs.Ytciidogbojbkiaa
open Go.ChangeShapes Go.WideShapes Go.ChangeAt Go.RowKit
open NumMath
set_option linter.unusedVariables false
set_option linter.unusedSimpArgs false
set_option maxRecDepth 20000
theorem refputn_any (n m : Nat) (w : World) (h1 : n < 18446744073709551616) (h2 : 1 ≤ m) (h3 : m ≤ 8) : Calls Try.prog 24 #[.int .u64 n, .int .i64 m] w fun e w' => ∃ A c, e = .returned (.slice A m c) ∧ w'.ownsRow w.heap.size 5 1 (.slice A m c) m ((putF m n).map byteV) ∧ Below w.heap.size w w' := by
  have h := refput_any n m w h1 (by omega) (by omega)
  rw [putB_nat h2 h3] at h
  refine h.mono ?_
  rintro e w' ⟨A, c, he, ho, hb, -⟩
  rw [putF_length] at he ho
  exact ⟨A, c, he, ho, hb⟩

theorem putF_one {x : Nat} (h : x < 256) : putF 1 x = [x] := by simp [putF, Nat.mod_eq_of_lt h]
set_option maxHeartbeats 4000000 in
theorem refask_any (r : Req) (hr : r.Fits) (w : World) :
    Calls Try.prog 13 #[reqV r] w (RetBytes 5 (askL r) w) := by
  obtain ⟨k, n, ok, who, whom, what, id, on, pr⟩ := r
  obtain ⟨h0, h1, h2, h3, h4, h5, h6, h7, h8⟩ := hr
  simp only at h0 h1 h2 h3 h4 h5 h6 h7 h8
  unfold reqV
  obtain ⟨hb0, hsz, hcs⟩ := box_start w #[.int .u8 k, .int .u32 n, .int .u8 ok, .int .u32 who, .int .u32 whom, .int .u32 what, .int .u32 id, .int .u64 on, .int .u64 pr] 27
  go_enter Try.func13, Try.ntmps13
  go_upto_region 1 with fail
  generalize World.alloc w _ = W0 at *
  replace hsz : w.heap.size < W0.heap.size := by omega
  have r1 := one_rb W0 h0
  have c1 := fun o => (r1.cell (b := w.heap.size) hsz o).trans (hcs o)
  go_upto_region 2 with fail
  generalize World.alloc W0 _ = w1 at *
  go_wp2_with fail
  refine (refputn_any n 4 w1 (by omega) (by omega) (by omega)).mono ?_
  rintro e v2 ⟨B2, d2, rfl, ho2, hb2⟩
  have q2 := r1.keep hb2
  have x2 := own_bytes ho2 (putF_small 4 n)
  clear ho2 hb2 r1 c1
  go_wp2_with (first | (at_builtin; refine wpList_append_rb rfl _ _ 28 28 rfl Try.underlying28 Try.underlying28 q2 rfl v2.heap.size B2 4 d2 (putF 4 n) rfl x2 (putF_length _ _) (by omega) ?_; intro A2 c2_ w2 r2; clear q2 x2; have c2 := fun o => (r2.cell (b := w.heap.size) hsz o).trans (hcs o)) | (at_builtin; refine wpList_append_rb rfl _ _ 28 28 rfl Try.underlying28 Try.underlying28 (r2.alloc (.cells #[.int .u8 (ok : Int)] 5)) rfl (w2.heap.size + 1) (some ⟨w2.heap.size, 0, none⟩) 1 1 [ok] rfl (one_bytes w2 (by omega)) rfl (by omega) ?_; intro A3 c3_ w3 r3; have c3 := fun o => (r3.cell (b := w.heap.size) hsz o).trans (hcs o)))
  go_wp2_with fail
  refine (refputn_any who 4 w3 (by omega) (by omega) (by omega)).mono ?_
  rintro e v4 ⟨B4, d4, rfl, ho4, hb4⟩
  have q4 := r3.keep hb4
  have x4 := own_bytes ho4 (putF_small 4 who)
  clear ho4 hb4 r3 c3
  go_wp2_with (at_builtin; refine wpList_append_rb rfl _ _ 28 28 rfl Try.underlying28 Try.underlying28 q4 rfl v4.heap.size B4 4 d4 (putF 4 who) rfl x4 (putF_length _ _) (by omega) ?_; intro A4 c4_ w4 r4; clear q4 x4; have c4 := fun o => (r4.cell (b := w.heap.size) hsz o).trans (hcs o))
  go_wp2_with fail
  refine (refputn_any whom 4 w4 (by omega) (by omega) (by omega)).mono ?_
  rintro e v5 ⟨B5, d5, rfl, ho5, hb5⟩
  have q5 := r4.keep hb5
  have x5 := own_bytes ho5 (putF_small 4 whom)
  clear ho5 hb5 r4 c4
  go_wp2_with (at_builtin; refine wpList_append_rb rfl _ _ 28 28 rfl Try.underlying28 Try.underlying28 q5 rfl v5.heap.size B5 4 d5 (putF 4 whom) rfl x5 (putF_length _ _) (by omega) ?_; intro A5 c5_ w5 r5; clear q5 x5; have c5 := fun o => (r5.cell (b := w.heap.size) hsz o).trans (hcs o))
  go_wp2_with fail
  refine (refputn_any what 4 w5 (by omega) (by omega) (by omega)).mono ?_
  rintro e v6 ⟨B6, d6, rfl, ho6, hb6⟩
  have q6 := r5.keep hb6
  have x6 := own_bytes ho6 (putF_small 4 what)
  clear ho6 hb6 r5 c5
  go_wp2_with (at_builtin; refine wpList_append_rb rfl _ _ 28 28 rfl Try.underlying28 Try.underlying28 q6 rfl v6.heap.size B6 4 d6 (putF 4 what) rfl x6 (putF_length _ _) (by omega) ?_; intro A6 c6_ w6 r6; clear q6 x6; have c6 := fun o => (r6.cell (b := w.heap.size) hsz o).trans (hcs o))
  go_wp2_with fail
  refine (refputn_any id 4 w6 (by omega) (by omega) (by omega)).mono ?_
  rintro e v7 ⟨B7, d7, rfl, ho7, hb7⟩
  have q7 := r6.keep hb7
  have x7 := own_bytes ho7 (putF_small 4 id)
  clear ho7 hb7 r6 c6
  go_wp2_with (at_builtin; refine wpList_append_rb rfl _ _ 28 28 rfl Try.underlying28 Try.underlying28 q7 rfl v7.heap.size B7 4 d7 (putF 4 id) rfl x7 (putF_length _ _) (by omega) ?_; intro A7 c7_ w7 r7; clear q7 x7; have c7 := fun o => (r7.cell (b := w.heap.size) hsz o).trans (hcs o))
  go_wp2_with fail
  refine (refputn_any on 8 w7 (by omega) (by omega) (by omega)).mono ?_
  rintro e v8 ⟨B8, d8, rfl, ho8, hb8⟩
  have q8 := r7.keep hb8
  have x8 := own_bytes ho8 (putF_small 8 on)
  clear ho8 hb8 r7 c7
  go_wp2_with (at_builtin; refine wpList_append_rb rfl _ _ 28 28 rfl Try.underlying28 Try.underlying28 q8 rfl v8.heap.size B8 8 d8 (putF 8 on) rfl x8 (putF_length _ _) (by omega) ?_; intro A8 c8_ w8 r8; clear q8 x8; have c8 := fun o => (r8.cell (b := w.heap.size) hsz o).trans (hcs o))
  go_wp2_with fail
  refine (refputn_any pr 8 w8 (by omega) (by omega) (by omega)).mono ?_
  rintro e v9 ⟨B9, d9, rfl, ho9, hb9⟩
  have q9 := r8.keep hb9
  have x9 := own_bytes ho9 (putF_small 8 pr)
  clear ho9 hb9 r8 c8
  go_wp2_with (at_builtin; refine wpList_append_rb rfl _ _ 28 28 rfl Try.underlying28 Try.underlying28 q9 rfl v9.heap.size B9 8 d9 (putF 8 pr) rfl x9 (putF_length _ _) (by omega) ?_; intro A9 c9_ w9 r9; clear q9 x9; have c9 := fun o => (r9.cell (b := w.heap.size) hsz o).trans (hcs o))
  go_ret
  have hret := r9.ret hb0
  have e : [k] ++ putF 4 n ++ [ok] ++ putF 4 who ++ putF 4 whom ++ putF 4 what ++ putF 4 id ++ putF 8 on ++ putF 8 pr = askL ⟨k, n, ok, who, whom, what, id, on, pr⟩ := by simp [askL, putF_one h0, putF_one h2]
  rw [e] at hret
  exact hret
set_option maxHeartbeats 4000000 in
theorem reftell_any (r : Rep) (hr : r.Fits) (w : World) :
    Calls Try.prog 17 #[repV r] w (RetBytes 5 (tellL r) w) := by
  obtain ⟨x, a, b, c⟩ := r
  obtain ⟨h0, h1, h2, h3⟩ := hr
  simp only at h0 h1 h2 h3
  unfold repV
  obtain ⟨hb0, hsz, hcs⟩ := box_start w #[.int .u16 x, .int .u64 a, .int .u64 b, .int .u64 c] 42
  go_enter Try.func17, Try.ntmps17
  go_wp2_with fail
  generalize World.alloc w _ = W0 at *
  replace hsz : w.heap.size < W0.heap.size := by omega
  refine (refputn_any x 2 W0 (by omega) (by omega) (by omega)).mono ?_
  rintro e w1 ⟨A1, c1_, rfl, ho1, hb1⟩
  have r1 := RB.of_ret (Below.refl _ W0) ho1 hb1 (putF_small 2 x) (putF_length 2 x)
  have c1 := fun o => (r1.cell (b := w.heap.size) hsz o).trans (hcs o)
  clear ho1 hb1
  go_wp2_with fail
  refine (refputn_any a 8 w1 (by omega) (by omega) (by omega)).mono ?_
  rintro e v2 ⟨B2, d2, rfl, ho2, hb2⟩
  have q2 := r1.keep hb2
  have x2 := own_bytes ho2 (putF_small 8 a)
  clear ho2 hb2 r1 c1
  go_wp2_with (at_builtin; refine wpList_append_rb rfl _ _ 28 28 rfl Try.underlying28 Try.underlying28 q2 rfl v2.heap.size B2 8 d2 (putF 8 a) rfl x2 (putF_length _ _) (by omega) ?_; intro A2 c2_ w2 r2; clear q2 x2; have c2 := fun o => (r2.cell (b := w.heap.size) hsz o).trans (hcs o))
  go_wp2_with fail
  refine (refputn_any b 8 w2 (by omega) (by omega) (by omega)).mono ?_
  rintro e v3 ⟨B3, d3, rfl, ho3, hb3⟩
  have q3 := r2.keep hb3
  have x3 := own_bytes ho3 (putF_small 8 b)
  clear ho3 hb3 r2 c2
  go_wp2_with (at_builtin; refine wpList_append_rb rfl _ _ 28 28 rfl Try.underlying28 Try.underlying28 q3 rfl v3.heap.size B3 8 d3 (putF 8 b) rfl x3 (putF_length _ _) (by omega) ?_; intro A3 c3_ w3 r3; clear q3 x3; have c3 := fun o => (r3.cell (b := w.heap.size) hsz o).trans (hcs o))
  go_wp2_with fail
  refine (refputn_any c 8 w3 (by omega) (by omega) (by omega)).mono ?_
  rintro e v4 ⟨B4, d4, rfl, ho4, hb4⟩
  have q4 := r3.keep hb4
  have x4 := own_bytes ho4 (putF_small 8 c)
  clear ho4 hb4 r3 c3
  go_wp2_with (at_builtin; refine wpList_append_rb rfl _ _ 28 28 rfl Try.underlying28 Try.underlying28 q4 rfl v4.heap.size B4 8 d4 (putF 8 c) rfl x4 (putF_length _ _) (by omega) ?_; intro A4 c4_ w4 r4; clear q4 x4; have c4 := fun o => (r4.cell (b := w.heap.size) hsz o).trans (hcs o))
  go_ret
  have hret := r4.ret hb0
  have e : putF 2 x ++ putF 8 a ++ putF 8 b ++ putF 8 c = tellL ⟨x, a, b, c⟩ := by simp [tellL]
  rw [e] at hret
  exact hret
end Go.Proofs.Ytciidogbojbkiaa
