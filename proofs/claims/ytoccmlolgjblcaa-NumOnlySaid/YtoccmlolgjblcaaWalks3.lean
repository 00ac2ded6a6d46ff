/- The contracts of chapter 1's functions that turn, take signs, narrow. Conditions: numbers fit their kinds. -/
import Derived.Test.YtoccmlolgjblcaaWalks2
namespace Go.Proofs.Ytoccmlolgjblcaa
open Go.ChangeShapes Go.WideShapes Go.ChangeAt Go.RowKit
open NumMath
set_option linter.unusedVariables false
set_option linter.unusedSimpArgs false

/-- how far a turn goes -/
def far (k : Int) : Nat := (k % 64).toNat
theorem far_lt (k : Int) : far k < 64 := by unfold far; omega
theorem far_is (k : Int) : ((far k : Nat) : Int) = k % 64 := by unfold far; omega
theorem tmod64 (k : Int) : k.tmod 64 = if 0 ≤ k then k % 64 else -((-k) % 64) := tmod_eq_if k 64
theorem mask_far (k : Int) (h1 : -9223372036854775808 ≤ k) (h2 : k ≤ 9223372036854775807) : bits .and .u64 (IntKind.u64.wrap (k.tmod 64)) 63 = ((far k : Nat) : Int) := by
  have e : IntKind.u64.wrap (k.tmod 64) = (((k.tmod 64 % 18446744073709551616).toNat : Nat) : Int) := by rw [IntKind.wrap_u64]; omega
  have h := u64_and_nat (k.tmod 64 % 18446744073709551616).toNat 63 (by omega) (by omega)
  rw [nat_mask6] at h
  rw [e]
  refine h.trans ?_
  rw [tmod64]
  have := far_is k
  split <;> omega
theorem mask_far' (k : Int) (h1 : 0 ≤ k) (h2 : k ≤ 9223372036854775807) : bits .and .u64 (k % 64) 63 = ((far k : Nat) : Int) := by
  have h := mask_far k (by omega) h2
  have e : IntKind.u64.wrap (k.tmod 64) = k % 64 := by rw [IntKind.wrap_u64, tmod64, if_pos h1]; omega
  rw [e] at h
  exact h
theorem rot_form (n s : Nat) (h : n < 18446744073709551616) (hs : s < 64) : bits .or .u64 (IntKind.u64.wrap ((n : Int) * 2 ^ s)) ((n : Int) / 2 ^ (64 - s)) = ((rot n s : Nat) : Int) := by
  have e1 : (n : Int) * 2 ^ s = ((n * 2 ^ s : Nat) : Int) := by rw [Int.natCast_mul, Int.natCast_pow]; rfl
  have e2 : (n : Int) / 2 ^ (64 - s) = ((n / 2 ^ (64 - s) : Nat) : Int) := by rw [Int.natCast_ediv, Int.natCast_pow]; rfl
  have hp : 2 ^ (64 - s) * 2 ^ s = 18446744073709551616 := by rw [← Nat.pow_add, show 64 - s + s = 64 from by omega]
  have hm : n * 2 ^ s % 18446744073709551616 = n % 2 ^ (64 - s) * 2 ^ s := by rw [← hp, Nat.mul_mod_mul_right]
  have hd : n / 2 ^ (64 - s) < 2 ^ s := Nat.div_lt_of_lt_mul (by omega)
  have hd2 : n / 2 ^ (64 - s) < 18446744073709551616 := Nat.lt_of_le_of_lt (Nat.div_le_self _ _) h
  rw [IntKind.wrap_u64, e1, e2, show (18446744073709551616 : Int) = ((18446744073709551616 : Nat) : Int) from rfl, ← Int.natCast_emod, hm, u64_or_nat _ _ (by rw [← hm]; exact Nat.mod_lt _ (by omega)) hd2, nat_join s _ _ (Nat.mul_mod_left _ _) hd]
  rfl
theorem turn_any (n : Nat) (k : Int) (w : World) (h0 : n < 18446744073709551616) (h1 : -9223372036854775808 ≤ k) (h2 : k ≤ 9223372036854775807) :
    Calls Try.prog 24 #[.int .u64 n, .int .i64 k] w fun e w' => e = .returned (.int .u64 (rot n (far k) : Nat)) ∧ w = w' := by
  have hf := far_lt k
  have h3 := mask_far k h1 h2
  have h4 := fun hk : 0 ≤ k => mask_far' k hk h2
  have h5 := rot_form n (far k) h0 hf
  generalize far k = s at *
  by_cases hk : 0 ≤ k
  · have h6 := h4 hk
    clear h4 h3
    go_enter Try.func24, Try.ntmps24
    go_wp2
    go_ret
    exact ⟨rfl, rfl⟩
  · clear h4
    go_enter Try.func24, Try.ntmps24
    go_wp2
    go_ret
    exact ⟨rfl, rfl⟩
theorem refturn_any (n : Nat) (k : Int) (w : World) (h0 : n < 18446744073709551616) (h1 : -9223372036854775808 ≤ k) (h2 : k ≤ 9223372036854775807) :
    Calls Try.prog 29 #[.int .u64 n, .int .i64 k] w fun e w' => e = .returned (.int .u64 (rot n (far k) : Nat)) ∧ w = w' := by
  have hf := far_lt k
  have h3 : (k.tmod 64 + 64).tmod 64 = ((far k : Nat) : Int) := by
    rw [far_is, Int.tmod_eq_emod_of_nonneg (by rw [tmod64]; split <;> omega), tmod64]
    split <;> omega
  have hb : -64 < k.tmod 64 ∧ k.tmod 64 < 64 := by rw [tmod64]; split <;> omega
  generalize far k = s at *
  go_enter Try.func29, Try.ntmps29
  go_wp2
  clear h3 hb h1 h2
  go_loop [5, 7] (fun x i => ∃ j : Nat, j ≤ 64 ∧ i = .int .i64 j ∧ x = .int .u64 (rot (n % 2 ^ j) s : Nat)) (fun _ i => 64 - (intOf i).toNat)
  case atStart => exact ⟨0, by omega, rfl, by simp [Nat.mod_one, rot]⟩
  case round =>
    obtain ⟨j, hj, rfl, rfl⟩ := hrel
    rcases Nat.lt_or_ge j 64 with hlt | hge
    · have hb := rot_bit n j s hlt hf
      have hr : rot (n % 2 ^ (j + 1)) s < 18446744073709551616 := rot_lt _ _ (Nat.lt_of_le_of_lt (Nat.mod_le _ _) h0) hf
      have hq : rgt n j = n / 2 ^ j := rfl
      have hpw : pwN ((j + s) % 64) = 2 ^ ((j + s) % 64) := pow_mod_small (Nat.mod_lt _ (by omega))
      have HQ := Lib.hid hq
      rw [← hq, ← hpw] at hb
      obtain ⟨m, hme⟩ : ∃ m, (j + s) % 64 = m := ⟨_, rfl⟩
      rw [hme] at hb hpw
      have hm : m < 18446744073709551616 := by omega
      have he : ((j : Int) + (s : Int)) % 64 = ((m : Nat) : Int) := by omega
      clear hme
      have hj2 : j < 18446744073709551616 := by omega
      have hrl : rot (n % 2 ^ j) s < 18446744073709551616 := rot_lt _ _ (Nat.lt_of_le_of_lt (Nat.mod_le _ _) h0) hf
      obtain ⟨r1, hr1⟩ : ∃ r1, rot (n % 2 ^ (j + 1)) s = r1 := ⟨_, rfl⟩
      have HR1 := Lib.hid hr1
      rw [hr1] at hb hr
      clear hr1
      generalize rot (n % 2 ^ j) s = r0 at *
      clear hq hpw
      rcases Nat.mod_two_eq_zero_or_one (rgt n j) with hq2 | hq2
      · have ht : (((rgt n j : Nat) : Int) % 2 == 1) = false := by rw [beq_eq_false_iff_ne]; omega
        have HB := Lib.hid (show r1 = r0 by rw [hb, hq2, Nat.zero_mul, Nat.add_zero])
        clear hb hq2
        go_wp2_with (go_at_call 26; refine (refright_any _ _ _ h0 hj2).mono ?_; rintro e w' ⟨rfl, rfl⟩)
        go_round
        case rel => exact ⟨j + 1, by omega, by go_num, by rw [HR1.out, HB.out]⟩
        case measure => simp [intOf]; omega
      · have ht : (((rgt n j : Nat) : Int) % 2 == 1) = true := by rw [beq_iff_eq]; omega
        have HB := Lib.hid (show r1 = r0 + pwN m by rw [hb, hq2, Nat.one_mul])
        clear hb hq2
        go_wp2_with (first | (go_at_call 26; refine (refright_any _ _ _ h0 hj2).mono ?_; rintro e w' ⟨rfl, rfl⟩) | (go_at_call 38; refine (power_any _ _ hm).mono ?_; rintro e w' ⟨rfl, rfl⟩))
        go_round
        case rel => exact ⟨j + 1, by omega, by go_num, by rw [HR1.out, IntKind.wrap_u64]; have := HB.out; congr 1; omega⟩
        case measure => simp [intOf]; omega
    · obtain rfl : j = 64 := by omega
      rw [Nat.mod_eq_of_lt (a := n) (by omega)]
      go_wp2
      go_ret
      exact ⟨rfl, rfl⟩

theorem refsigned_any (n : Nat) (k : Int) (w : World) (h1 : n < 18446744073709551616) (h2 : -9223372036854775808 ≤ k) (h3 : k ≤ 9223372036854775807) :
    Calls Try.prog 12 #[.int .u64 n, .int .i64 k] w fun e w' => e = .returned (.int .i64 (sgn n k)) ∧ w = w' := by
  rcases (show k ≤ 0 ∨ (1 ≤ k ∧ k < 64) ∨ 64 ≤ k from by omega) with hk | hk | hk
  · have e : sgn n k = 0 := by unfold sgn; rw [if_pos hk]
    rw [e]
    clear e
    go_enter Try.func12, Try.ntmps12
    go_wp2
    go_ret
    exact ⟨rfl, rfl⟩
  · obtain ⟨j, rfl⟩ : ∃ j : Nat, k = j := ⟨k.toNat, by omega⟩
    have hj1 : 1 ≤ j := by omega
    have hj2 : j < 64 := by omega
    have e : sgn n j = bm n j := by unfold sgn; rw [if_neg (by omega)]; congr 1; omega
    have hp : pwN j = 2 ^ j := pow_mod_small hj2
    have hd := two_half j hj1
    have ec : (((2 ^ j : Nat)) : Int) = (2 : Int) ^ j := Int.natCast_pow 2 j
    have hpos : 0 < 2 ^ j := Nat.two_pow_pos j
    have hle : 2 ^ j < 18446744073709551616 := by have := pwN_lt j; omega
    obtain ⟨p, hpe⟩ : ∃ p, pwN j = p := ⟨_, rfl⟩
    have eb : bm n j = if n % p < p / 2 then ((n % p : Nat) : Int) else -((p - n % p : Nat) : Int) := by
      have hm : n % p < p := Nat.mod_lt _ (by omega)
      have ep : (2 : Int) ^ j = (p : Int) := by rw [← ec, ← hp, hpe]
      rw [ep] at hd
      unfold bm
      rw [ep]
      split <;> split <;> omega
    rw [e, eb]
    have hp1 : 1 ≤ p := by omega
    have hp2 : p < 18446744073709551616 := by omega
    have hp3 : p ≤ 9223372036854775808 := by
      have : 2 ^ j ≤ 2 ^ 63 := Nat.pow_le_pow_right (by omega) (by omega)
      omega
    have hm : n % p < p := Nat.mod_lt _ (by omega)
    have HP := Lib.hid hpe
    have hj3 : j < 18446744073709551616 := by omega
    have hc : ∀ W, Calls Try.prog 38 #[.int .u64 j] W fun e w' => e = .returned (.int .u64 (p : Nat)) ∧ W = w' := fun W => by
      have := power_any j W hj3
      rw [hpe] at this
      exact this
    have HC := Lib.hid hc
    clear e eb hp hd ec hpos hle hpe hc hk h2 h3
    by_cases ht : n % p < p / 2
    · rw [if_pos ht]
      go_enter Try.func12, Try.ntmps12
      go_wp2_with (go_at_call 38; refine (HC.out _).mono ?_; rintro e w' ⟨rfl, rfl⟩)
      go_ret
      exact ⟨ret_int (Int.natCast_emod n p).symm, rfl⟩
    · rw [if_neg ht]
      go_enter Try.func12, Try.ntmps12
      go_wp2_with (go_at_call 38; refine (HC.out _).mono ?_; rintro e w' ⟨rfl, rfl⟩)
      go_ret
      exact ⟨ret_int (by omega), rfl⟩
  · have e : sgn n k = wrap64 (n : Int) := by unfold sgn; rw [if_neg (by omega), wrap_bm]; congr 1; omega
    rw [e]
    clear e
    go_enter Try.func12, Try.ntmps12
    go_wp2
    go_ret
    exact ⟨rfl, rfl⟩

/-- what a number is in smaller types -/
def nar (n : Nat) : Array Value := #[.int .i64 ((n % 256 : Nat) : Int), .int .i64 ((n % 65536 : Nat) : Int), .int .i64 ((n % 4294967296 : Nat) : Int), .int .i64 (sgn n 8), .int .i64 (sgn n 16), .int .i64 (sgn n 32)]
theorem sgn_small (n : Nat) (k : Nat) (hk : 1 ≤ k) (hk2 : k ≤ 32) : sgn n k = bm n k ∧ -2 ^ (k - 1) ≤ sgn n k ∧ sgn n k < 2 ^ (k - 1) := by
  have e : sgn n k = bm n k := by unfold sgn; rw [if_neg (by omega)]; congr 1; omega
  rw [e]
  exact ⟨rfl, bm_bounds n k hk⟩
theorem bm8 (n : Int) : bm n 8 = if n % 256 < 128 then n % 256 else n % 256 - 256 := rfl
theorem bm16 (n : Int) : bm n 16 = if n % 65536 < 32768 then n % 65536 else n % 65536 - 65536 := by
  unfold bm; rw [show (2 : Int) ^ 16 = 65536 from by decide, show (2 : Int) ^ (16 - 1) = 32768 from by decide]
theorem bm32 (n : Int) : bm n 32 = if n % 4294967296 < 2147483648 then n % 4294967296 else n % 4294967296 - 4294967296 := by
  unfold bm; rw [show (2 : Int) ^ 32 = 4294967296 from by decide, show (2 : Int) ^ (32 - 1) = 2147483648 from by decide]
theorem wrap_i8 (n : Int) : IntKind.i8.wrap n = (n + 128) % 256 - 128 := by simp [IntKind.wrap, IntKind.bits, IntKind.signed]; split <;> omega
theorem wrap_i16 (n : Int) : IntKind.i16.wrap n = (n + 32768) % 65536 - 32768 := by simp [IntKind.wrap, IntKind.bits, IntKind.signed]; split <;> omega
theorem narrow_any (n : Nat) (w : World) (h1 : n < 18446744073709551616) :
    Calls Try.prog 18 #[.int .u64 n] w fun e w' => e = .returned (.agg (nar n)) ∧ Below w.heap.size w w' := by
  have e16 : IntKind.u16.wrap (n : Int) = ((n % 65536 : Nat) : Int) := by rw [IntKind.wrap_u16]; omega
  obtain ⟨a1, a2, a3⟩ := sgn_small n 8 (by omega) (by omega)
  obtain ⟨b1, b2, b3⟩ := sgn_small n 16 (by omega) (by omega)
  obtain ⟨c1, c2, c3⟩ := sgn_small n 32 (by omega) (by omega)
  have i8 : IntKind.i8.wrap (n : Int) = sgn n 8 := by
    rw [show ((8 : Int)) = ((8 : Nat) : Int) from rfl, a1, bm8, wrap_i8]; split <;> omega
  have i16 : IntKind.i16.wrap (n : Int) = sgn n 16 := by
    rw [show ((16 : Int)) = ((16 : Nat) : Int) from rfl, b1, bm16, wrap_i16]; split <;> omega
  have i32 : IntKind.i32.wrap (n : Int) = sgn n 32 := by
    rw [show ((32 : Int)) = ((32 : Nat) : Int) from rfl, c1, bm32, IntKind.wrap_i32]; split <;> omega
  have i32' : wrap32 (n : Int) = sgn n 32 := by rw [← i32, IntWalk.i32_left]
  simp only [show (2 : Int) ^ (8 - 1) = 128 from rfl, show (2 : Int) ^ (16 - 1) = 32768 from rfl, show (2 : Int) ^ (32 - 1) = 2147483648 from rfl] at a2 a3 b2 b3 c2 c3
  have e8 : ((n : Int) % 256) = ((n % 256 : Nat) : Int) := by omega
  have e32 : ((n : Int) % 4294967296) = ((n % 4294967296 : Nat) : Int) := by omega
  have l16 : n % 65536 < 65536 := Nat.mod_lt _ (by omega)
  have l8 : n % 256 < 256 := Nat.mod_lt _ (by omega)
  have l32 : n % 4294967296 < 4294967296 := Nat.mod_lt _ (by omega)
  unfold nar
  simp only [show ((8 : Nat) : Int) = 8 from rfl, show ((16 : Nat) : Int) = 16 from rfl, show ((32 : Nat) : Int) = 32 from rfl] at *
  generalize sgn n 8 = s8 at *
  generalize sgn n 16 = s16 at *
  generalize sgn n 32 = s32 at *
  generalize n % 65536 = n16 at *
  generalize n % 256 = n8 at *
  generalize n % 4294967296 = n32 at *
  clear a1 b1 c1
  go_enter Try.func18, Try.ntmps18
  go_wp2
  exact bodyPost_ret (v := .agg #[.int .i64 n8, .int .i64 n16, .int .i64 n32, .int .i64 s8, .int .i64 s16, .int .i64 s32]) (by simp [results, Try.results18, go_sem]) rfl ⟨rfl, by go_grown⟩
theorem refnarrow_any (n : Nat) (w : World) (h1 : n < 18446744073709551616) :
    Calls Try.prog 19 #[.int .u64 n] w fun e w' => e = .returned (.agg (nar n)) ∧ Below w.heap.size w w' := by
  have h8 := fun W => refsigned_any n 8 W h1 (by omega) (by omega)
  have h16 := fun W => refsigned_any n 16 W h1 (by omega) (by omega)
  have h32 := fun W => refsigned_any n 32 W h1 (by omega) (by omega)
  have e8 : ((n : Int) % 256) = ((n % 256 : Nat) : Int) := by omega
  have e16 : ((n : Int) % 65536) = ((n % 65536 : Nat) : Int) := by omega
  have e32 : ((n : Int) % 4294967296) = ((n % 4294967296 : Nat) : Int) := by omega
  have l16 : n % 65536 < 65536 := Nat.mod_lt _ (by omega)
  have l8 : n % 256 < 256 := Nat.mod_lt _ (by omega)
  have l32 : n % 4294967296 < 4294967296 := Nat.mod_lt _ (by omega)
  unfold nar
  generalize sgn n 8 = s8 at *
  generalize sgn n 16 = s16 at *
  generalize sgn n 32 = s32 at *
  generalize n % 65536 = n16 at *
  generalize n % 256 = n8 at *
  generalize n % 4294967296 = n32 at *
  have H8 := Lib.hid h8
  have H16 := Lib.hid h16
  have H32 := Lib.hid h32
  clear h8 h16 h32
  go_enter Try.func19, Try.ntmps19
  go_wp2_with fail
  refine (H8.out _).mono ?_
  rintro e w' ⟨rfl, rfl⟩
  go_wp2_with fail
  refine (H16.out _).mono ?_
  rintro e w' ⟨rfl, rfl⟩
  go_wp2_with fail
  refine (H32.out _).mono ?_
  rintro e w' ⟨rfl, rfl⟩
  go_wp2_with fail
  exact bodyPost_ret (v := .agg #[.int .i64 n8, .int .i64 n16, .int .i64 n32, .int .i64 s8, .int .i64 s16, .int .i64 s32]) (by simp [results, Try.results19, go_sem]) rfl ⟨rfl, by go_grown⟩
end Go.Proofs.Ytoccmlolgjblcaa
