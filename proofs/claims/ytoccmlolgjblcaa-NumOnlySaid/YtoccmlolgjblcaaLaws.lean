/- The laws of chapter 1, walked: signs, shifts, bytes, long numbers. Conditions: none beyond what the rows say. -/
import Derived.Test.YtoccmlolgjblcaaLongs2
namespace Go.Proofs.Ytoccmlolgjblcaa
open Go.ChangeShapes Go.WideShapes Go.ChangeAt Go.RowKit
open NumMath
set_option linter.unusedVariables false
set_option linter.unusedSimpArgs false
set_option maxRecDepth 20000

theorem eq27 (a b c d e f : Int) (w : World) : (binOp .eql 27 (.agg #[.int .i64 a, .int .i64 b, .int .i64 c, .int .i64 d, .int .i64 e, .int .i64 f]) (.agg #[.int .i64 a, .int .i64 b, .int .i64 c, .int .i64 d, .int .i64 e, .int .i64 f])).run Try.prog w = .ok (.bool true) w := by
  have i2 : (Try.prog.info? 2).map (fun i => (i.zero, i.size, i.bytes)) = some (some (.int .i64 0), 1, 8) := by kernel_rfl
  obtain ⟨i0, hi0, hz0, hz1, hz2⟩ := info_parts i2
  have h1 : ∀ (dd : Nat) (x : Int), (Op.equalIn (dd + 1) 2 (.int .i64 x) (.int .i64 x)).run Try.prog w = .ok true w := fun dd x => by
    simp [Op.equalIn, run_underlying Try.underlying2]
  have h : ∀ dd : Nat, (Op.equalIn (dd + 2) 27 (.agg #[.int .i64 a, .int .i64 b, .int .i64 c, .int .i64 d, .int .i64 e, .int .i64 f]) (.agg #[.int .i64 a, .int .i64 b, .int .i64 c, .int .i64 d, .int .i64 e, .int .i64 f])).run Try.prog w = .ok true w := fun dd => by
    rw [Op.equalIn]
    simp only [Sem.run_bind, run_underlying Try.underlying27, Result.andThen_ok]
    simp only [Std.Legacy.Range.forIn_eq_forIn_range', Std.Legacy.Range.size, Nat.sub_zero, Nat.add_sub_cancel, Nat.div_one, List.range'_succ, List.range'_zero, List.forIn_cons, List.forIn_nil]
    simp [sizeOf, typeInfo, hi0, hz1, part, h1]
  simp only [binOp]
  simp [Op.equal, Op.maxDepth, h 9998]
theorem nar_eq (n : Nat) (W : World) : (binOp .eql 27 (.agg (nar n)) (.agg (nar n))).run Try.prog W = .ok (.bool true) W := eq27 _ _ _ _ _ _ W

theorem in_i64 {a : Int} (h : (Lit.int .i64 a).wf = true) : -9223372036854775808 ≤ a ∧ a ≤ 9223372036854775807 := bounds_i64 h

theorem numSigns_walk (a0 : Int) (a1 : Int) (a2 : Int) (w0 : (Lit.int .u64 a0).wf = true) (w1 : (Lit.int .i64 a1).wf = true) (w2 : (Lit.int .i64 a2).wf = true) (w : World) :
    Calls Try.prog 3 #[.int .u64 a0, .int .i64 a1, .int .i64 a2] w fun e w' => e = .returned (.bool true) ∧ Below w.heap.size w w' := by
  obtain ⟨n, rfl, hn⟩ := nat_u64 w0
  obtain ⟨b1, b2⟩ := in_i64 w1
  obtain ⟨v1, v2⟩ := in_i64 w2
  have hE := nar_eq n
  clear w0 w1 w2
  go_enter Try.func3, Try.ntmps3
  go_wp2_with (first
    | (go_at_call 11; refine (signed_any _ _ _ hn b1 b2).mono ?_; rintro e w' ⟨rfl, rfl⟩)
    | (go_at_call 12; refine (refsigned_any _ _ _ hn b1 b2).mono ?_; rintro e w' ⟨rfl, rfl⟩)
    | (go_at_call 13; refine (fold_any _ _ v1 v2).mono ?_; rintro e w' ⟨rfl, rfl⟩)
    | (go_at_call 14; refine (reffold_any _ _ v1 v2).mono ?_; rintro e w' ⟨rfl, rfl⟩)
    | (go_at_call 15; refine (known_any _).mono ?_; rintro e w1 ⟨rfl, hb1⟩)
    | (go_at_call 16; refine (unfold_any _ _ hn).mono ?_; rintro e w' ⟨rfl, rfl⟩)
    | (go_at_call 17; refine (refunfold_any _ _ hn).mono ?_; rintro e w' ⟨rfl, rfl⟩)
    | (go_at_call 18; refine (narrow_any _ _ hn).mono ?_; rintro e w2 ⟨rfl, hb2⟩)
    | (go_at_call 19; refine (refnarrow_any _ _ hn).mono ?_; rintro e w3 ⟨rfl, hb3⟩))
  go_ret
  exact ⟨rfl, hb1.trans ((hb2.mono hb1.size).trans (hb3.mono (by have := hb1.size; have := hb2.size; omega)))⟩

theorem numShifts_walk (a0 : Int) (a1 : Int) (a2 : Int) (a3 : Int) (w0 : (Lit.int .u64 a0).wf = true) (w1 : (Lit.int .u64 a1).wf = true) (w2 : (Lit.int .i64 a2).wf = true) (w3 : (Lit.int .i64 a3).wf = true) (w : World) :
    Calls Try.prog 6 #[.int .u64 a0, .int .u64 a1, .int .i64 a2, .int .i64 a3] w fun e w' => e = .returned (.bool true) ∧ Below w.heap.size w w' := by
  obtain ⟨n, rfl, hn⟩ := nat_u64 w0
  obtain ⟨k, rfl, hk⟩ := nat_u64 w1
  obtain ⟨v1, v2⟩ := in_i64 w2
  obtain ⟨b1, b2⟩ := in_i64 w3
  clear w0 w1 w2 w3
  go_enter Try.func6, Try.ntmps6
  go_wp2_with (first
    | (go_at_call 22; refine (right_any _ _ _ hn hk).mono ?_; rintro e w' ⟨rfl, rfl⟩)
    | (go_at_call 23; refine (left_any _ _ _ hk).mono ?_; rintro e w' ⟨rfl, rfl⟩)
    | (go_at_call 24; refine (turn_any _ _ _ hn b1 b2).mono ?_; rintro e w' ⟨rfl, rfl⟩)
    | (go_at_call 25; refine (refleft_any _ _ _ hk).mono ?_; rintro e w' ⟨rfl, rfl⟩)
    | (go_at_call 26; refine (refright_any _ _ _ hn hk).mono ?_; rintro e w' ⟨rfl, rfl⟩)
    | (go_at_call 27; refine (arith_any _ _ _ v1 v2 hk).mono ?_; rintro e w' ⟨rfl, rfl⟩)
    | (go_at_call 28; refine (refarith_any _ _ _ v1 v2 hk).mono ?_; rintro e w' ⟨rfl, rfl⟩)
    | (go_at_call 29; refine (refturn_any _ _ _ hn b1 b2).mono ?_; rintro e w' ⟨rfl, rfl⟩)
    | (go_at_call 15; refine (known_any _).mono ?_; rintro e w1 ⟨rfl, hb1⟩))
  go_ret
  exact ⟨rfl, hb1⟩

theorem numLongs_walk (a0 : Int) (a1 : Option Addr) (len1 cap1 : Nat) (z1 : List Int) (w : World) (w0 : (Lit.int .u64 a0).wf = true) (w1 : IsRow .u8 w a1 len1 cap1 z1) :
    Calls Try.prog 8 #[.int .u64 a0, .slice a1 len1 cap1] w fun e w' => e = .returned (.bool true) ∧ Below w.heap.size w w' := by
  obtain ⟨n, rfl, hn⟩ := nat_u64 w0
  obtain ⟨hlc, l, rfl, hl⟩ := w1.bytes
  clear w0 w1 z1
  rcases Nat.lt_or_ge 1000 l.length with hlt | hge
  · go_enter Try.func8, Try.ntmps8
    go_wp2
    go_ret
    exact ⟨rfl, Below.refl _ _⟩
  go_enter Try.func8, Try.ntmps8
  go_wp2_with (first
    | (go_at_call 34; refine (short_any _ _ _ _ _ hl (by omega)).mono ?_; rintro e w' ⟨rfl, rfl⟩)
    | (go_at_call 35; refine (refshort_any _ _ _ _ hl (by omega) hlc).mono ?_; rintro e w1 ⟨rfl, hb1⟩)
    | (go_at_call 15; refine (known_any _).mono ?_; rintro e w2 ⟨rfl, hb2⟩)
    | (go_at_call 36; refine (long_any _ _ hn).mono ?_; rintro e w3 ⟨A3, c3, rfl, hown3, hb3, hs3⟩)
    | (go_at_call 37; refine (reflong_any _ _ hn).mono ?_; rintro e w4 ⟨A4, c4, rfl, hown4, hb4, hs4⟩)
    | (go_at_call 21; refine (same_any _ _ _ _ _ _ w4.heap.size _ ((own_bytes hown3 hs3).below hb4 |>.more hb4.size) (own_bytes hown4 hs4)).mono ?_; rintro e w' ⟨rfl, rfl⟩))
  go_ret
  exact ⟨rfl, hb1.trans ((hb2.mono hb1.size).trans ((hb3.mono (by have := hb1.size; have := hb2.size; omega)).trans (hb4.mono (by have := hb1.size; have := hb2.size; have := hb3.size; omega))))⟩

theorem numPuts_walk (a0 : Int) (a1 : Int) (a2 : Option Addr) (len2 cap2 : Nat) (z2 : List Int) (w : World) (w0 : (Lit.int .u64 a0).wf = true) (w1 : (Lit.int .i64 a1).wf = true) (w2 : IsRow .u8 w a2 len2 cap2 z2) :
    Calls Try.prog 7 #[.int .u64 a0, .int .i64 a1, .slice a2 len2 cap2] w fun e w' => e = .returned (.bool true) ∧ Below w.heap.size w w' := by
  obtain ⟨n, rfl, hn⟩ := nat_u64 w0
  obtain ⟨v1, v2⟩ := in_i64 w1
  obtain ⟨hlc, l, rfl, hl⟩ := w2.bytes
  clear w0 w1 w2 z2
  rcases Nat.lt_or_ge 1000 l.length with hlt | hge
  · go_enter Try.func7, Try.ntmps7
    go_wp2
    go_ret
    exact ⟨rfl, Below.refl _ _⟩
  go_enter Try.func7, Try.ntmps7
  go_wp2_with fail
  refine (lent_any _ _ _ _ _ hl (by omega)).mono ?_
  rintro e w1 ⟨A1, c1, rfl, hown1, hb1⟩
  have hB1 : Bytes w1 w1.heap.size A1 l := own_bytes hown1 hl.2
  have hl1 : Bytes w1 w1.heap.size a2 l := (hl.below hb1).more hb1.size
  have hc1 : l.length ≤ c1 := by
    obtain ⟨_, c', e', h1, _⟩ := own_form hown1
    injection e' with _ _ e3
    omega
  clear hown1 hl
  go_wp2_with fail
  refine (known_any _).mono ?_
  rintro e w2 ⟨rfl, hb2⟩
  have hB2 := (hB1.below hb2).more hb2.size
  have hl2 := (hl1.below hb2).more hb2.size
  clear hB1 hl1
  go_wp2_with fail
  refine (put_any _ _ _ hn v1 v2).mono ?_
  rintro e w3 ⟨A3, c3, rfl, hown3, hb3, hs3⟩
  have hB3 := (hB2.below hb3).more hb3.size
  have hl3 := (hl2.below hb3).more hb3.size
  have hp3 := own_bytes hown3 hs3
  clear hown3 hB2 hl2
  go_wp2_with fail
  refine (refput_any _ _ _ hn v1 v2).mono ?_
  rintro e w4 ⟨A4, c4, rfl, hown4, hb4, hs4⟩
  have hB4 := (hB3.below hb4).more hb4.size
  have hl4 := (hl3.below hb4).more hb4.size
  have hp4 := (hp3.below hb4).more hb4.size
  have hq4 := own_bytes hown4 hs4
  clear hown4 hB3 hl3 hp3
  have HF : Below w.heap.size w w4 := hb1.trans ((hb2.mono hb1.size).trans ((hb3.mono (by have := hb1.size; have := hb2.size; omega)).trans (hb4.mono (by have := hb1.size; have := hb2.size; have := hb3.size; omega))))
  clear hb1 hb2 hb3 hb4
  go_wp2_with fail
  refine (same_any _ _ _ _ _ _ _ _ hp4 hq4).mono ?_
  rintro e w' ⟨rfl, rfl⟩
  rw [decide_eq_true rfl]
  go_wp2_with fail
  refine (get_any _ _ _ _ _ hB4 (by omega) hc1).mono ?_
  rintro e w' ⟨rfl, rfl⟩
  go_wp2_with fail
  refine (refget_any _ _ _ _ _ hl4 (by omega)).mono ?_
  rintro e w5 ⟨rfl, hd5⟩
  have hB5 := hB4.below (hd5.below w4.heap.size)
  have hl5 := hl4.below (hd5.below w4.heap.size)
  clear hB4 hl4
  go_wp2_with fail
  refine (same_any _ _ _ _ _ _ _ _ hB5 hl5).mono ?_
  rintro e w' ⟨rfl, rfl⟩
  rw [decide_eq_true rfl]
  go_wp2_with fail
  go_ret
  exact ⟨rfl, HF.trans (hd5.below _)⟩
end Go.Proofs.Ytoccmlolgjblcaa
