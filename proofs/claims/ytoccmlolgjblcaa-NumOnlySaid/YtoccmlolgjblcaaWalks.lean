/- The contracts of chapter 1's functions on numbers. Conditions: numbers fit their kinds. -/
import Derived.Test.YtoccmlolgjblcaaRef
import Derived.Test.YtoccmlolgjblcaaMath
import Derived.Lib.Hide
import Derived.Laws.BitsAllLaws
namespace Go.Proofs.Ytoccmlolgjblcaa
open Go.ChangeShapes Go.WideShapes Go.ChangeAt Go.RowKit
open NumMath

theorem xor_ones (a : Nat) (h : a < 18446744073709551616) : a ^^^ 18446744073709551615 = 18446744073709551615 - a := by
  have h1 : (BitVec.ofNat 64 a ^^^ BitVec.allOnes 64) = ~~~ (BitVec.ofNat 64 a) := BitVec.xor_allOnes
  have h2 := congrArg BitVec.toNat h1
  rw [BitVec.toNat_xor, BitVec.toNat_not, BitVec.toNat_allOnes, BitVec.toNat_ofNat, Nat.mod_eq_of_lt (by omega)] at h2
  simpa using h2
theorem xor_minus (x : Nat) (h : x < 9223372036854775808) : bits .xor .i64 (x : Int) (-1) = -(x : Int) - 1 := by
  show IntKind.i64.wrap ((BitVec.ofInt 64 (x : Int) ^^^ BitVec.ofInt 64 (-1)).toNat : Int) = _
  have e : BitVec.ofInt 64 (-1) = BitVec.allOnes 64 := by decide
  rw [e, BitVec.xor_allOnes, BitVec.toNat_not, BitVec.ofInt_natCast, BitVec.toNat_ofNat, Nat.mod_eq_of_lt (by omega), IntKind.wrap_i64]
  omega
theorem xor_none (x : Nat) (h : x < 9223372036854775808) : bits .xor .i64 (x : Int) 0 = (x : Int) := by
  show IntKind.i64.wrap ((BitVec.ofInt 64 (x : Int) ^^^ BitVec.ofInt 64 0).toNat : Int) = _
  have e : BitVec.ofInt 64 0 = 0#64 := by decide
  rw [e, BitVec.xor_zero, BitVec.ofInt_natCast, BitVec.toNat_ofNat, Nat.mod_eq_of_lt (by omega), IntKind.wrap_i64]
  omega

def foldN (v : Int) : Nat := if 0 ≤ v then (2 * v).toNat else (-2 * v - 1).toNat
theorem foldN_lt {v : Int} (h1 : -9223372036854775808 ≤ v) (h2 : v ≤ 9223372036854775807) : foldN v < 18446744073709551616 := by unfold foldN; split <;> omega
theorem foldN_is (v : Int) : ((foldN v : Nat) : Int) = if 0 ≤ v then 2 * v else -2 * v - 1 := by unfold foldN; split <;> omega
theorem fold_form (v : Int) (h1 : -9223372036854775808 ≤ v) (h2 : v ≤ 9223372036854775807) :
    bits BinOp.xor IntKind.u64 (IntKind.u64.wrap (IntKind.u64.wrap v * 2)) (IntKind.u64.wrap (v / 9223372036854775808)) = ((foldN v : Nat) : Int) := by
  rw [foldN_is]
  simp only [IntKind.wrap_u64]
  by_cases h : 0 ≤ v
  · rw [if_pos h]
    have e1 : v % 18446744073709551616 * 2 % 18446744073709551616 = (((2 * v).toNat : Nat) : Int) := by omega
    have e2 : v / 9223372036854775808 % 18446744073709551616 = ((0 : Nat) : Int) := by omega
    rw [e1, e2, u64_xor_nat _ _ (by omega) (by omega), Nat.xor_zero]
    omega
  · rw [if_neg h]
    have e1 : v % 18446744073709551616 * 2 % 18446744073709551616 = (((2 * v + 18446744073709551616).toNat : Nat) : Int) := by omega
    have e2 : v / 9223372036854775808 % 18446744073709551616 = ((18446744073709551615 : Nat) : Int) := by omega
    rw [e1, e2, u64_xor_nat _ _ (by omega) (by omega), xor_ones _ (by omega)]
    omega
theorem fold_any (v : Int) (w : World) (h1 : -9223372036854775808 ≤ v) (h2 : v ≤ 9223372036854775807) :
    Calls Try.prog 13 #[.int .i64 v] w fun e w' => e = .returned (.int .u64 (foldN v : Nat)) ∧ w = w' := by
  go_enter Try.func13, Try.ntmps13
  go_wp2
  go_ret
  exact ⟨by rw [← fold_form v h1 h2]; rfl, rfl⟩

def unfoldI (n : Nat) : Int := if n % 2 = 0 then ((n / 2 : Nat) : Int) else -((n / 2 : Nat) : Int) - 1
theorem unfoldI_in {n : Nat} (h : n < 18446744073709551616) : -9223372036854775808 ≤ unfoldI n ∧ unfoldI n ≤ 9223372036854775807 := by unfold unfoldI; split <;> omega
theorem unfold_form (n : Nat) (h : n < 18446744073709551616) : bits BinOp.xor IntKind.i64 ((n : Int) / 2) (wrap64 (-wrap64 (bits BinOp.and IntKind.u64 (n : Int) 1))) = unfoldI n := by
  have e1 : bits .and .u64 (n : Int) 1 = ((n % 2 : Nat) : Int) := by
    have := u64_and_nat n 1 h (by omega)
    rw [nat_mask1] at this
    exact this
  have e2 : (n : Int) / 2 = ((n / 2 : Nat) : Int) := by omega
  rw [e1, e2]
  unfold unfoldI
  rcases Nat.mod_two_eq_zero_or_one n with hb | hb
  · rw [hb, if_pos rfl]
    rw [show wrap64 (-wrap64 ((0 : Nat) : Int)) = 0 from by simp [wrap64]]
    exact xor_none (n / 2) (by omega)
  · rw [hb, if_neg (by omega)]
    rw [show wrap64 (-wrap64 ((1 : Nat) : Int)) = -1 from by simp [wrap64]]
    exact xor_minus (n / 2) (by omega)
theorem unfold_any (n : Nat) (w : World) (h1 : n < 18446744073709551616) :
    Calls Try.prog 16 #[.int .u64 n] w fun e w' => e = .returned (.int .i64 (unfoldI n)) ∧ w = w' := by
  go_enter Try.func16, Try.ntmps16
  go_wp2
  go_ret
  exact ⟨by rw [← unfold_form n h1]; rfl, rfl⟩

def sgn (n : Nat) (k : Int) : Int := if k ≤ 0 then 0 else bm n (min k 64).toNat
theorem wrap_bm (y : Int) : wrap64 y = bm y 64 := by
  unfold bm
  rw [← IntWalk.i64_left, IntKind.wrap_i64, show (2 : Int) ^ 64 = 18446744073709551616 from rfl, show (2 : Int) ^ (64 - 1) = 9223372036854775808 from rfl]
  split <;> omega
theorem sgn_form (n k : Nat) (hk : 1 ≤ k) (hk2 : k ≤ 64) : wrap64 (IntKind.u64.wrap ((n : Int) * 2 ^ (64 - k))) / 2 ^ (64 - k) = bm n k := by
  rw [IntKind.wrap_u64, wrap_bm, show (18446744073709551616 : Int) = 2 ^ 64 from rfl, bm_mod _ _ _ (Nat.le_refl _)]
  have h := bm_shift n k (64 - k) hk
  rw [show k + (64 - k) = 64 from by omega] at h
  have hp : (2 : Int) ^ (64 - k) ≠ 0 := Int.ne_of_gt (Int.pow_pos (by omega))
  rw [h, Int.mul_ediv_cancel _ hp]
theorem signed_any (n : Nat) (k : Int) (w : World) (h1 : n < 18446744073709551616) (h2 : -9223372036854775808 ≤ k) (h3 : k ≤ 9223372036854775807) :
    Calls Try.prog 11 #[.int .u64 n, .int .i64 k] w fun e w' => e = .returned (.int .i64 (sgn n k)) ∧ w = w' := by
  rcases (show k ≤ 0 ∨ (1 ≤ k ∧ k ≤ 64) ∨ 64 < k from by omega) with hk | hk | hk
  · have e : sgn n k = 0 := by unfold sgn; rw [if_pos hk]
    rw [e]
    clear e
    go_enter Try.func11, Try.ntmps11
    go_wp2
    go_ret
    exact ⟨rfl, rfl⟩
  · obtain ⟨j, rfl⟩ : ∃ j : Nat, k = j := ⟨k.toNat, by omega⟩
    have e : sgn n j = bm n j := by unfold sgn; rw [if_neg (by omega)]; congr 1; omega
    rw [e, ← sgn_form n j (by omega) (by omega)]
    clear e
    have hj1 : 1 ≤ j := by omega
    have hj2 : j ≤ 64 := by omega
    clear hk h2 h3
    go_enter Try.func11, Try.ntmps11
    go_wp2
    go_ret
    exact ⟨rfl, rfl⟩
  · have e : sgn n k = wrap64 (n : Int) := by unfold sgn; rw [if_neg (by omega), wrap_bm]; congr 1; omega
    rw [e]
    clear e
    go_enter Try.func11, Try.ntmps11
    go_wp2
    go_ret
    exact ⟨by simp, rfl⟩

def pwN (n : Nat) : Nat := 2 ^ n % 18446744073709551616
theorem pwN_lt (n : Nat) : pwN n < 18446744073709551616 := Nat.mod_lt _ (by omega)
theorem power_any (n : Nat) (w : World) (h1 : n < 18446744073709551616) :
    Calls Try.prog 38 #[.int .u64 n] w fun e w' => e = .returned (.int .u64 (pwN n : Nat)) ∧ w = w' := by
  go_enter Try.func38, Try.ntmps38
  go_wp2
  go_loop [3, 4] (fun x i => ∃ k p : Nat, k ≤ n ∧ k ≤ 64 ∧ p < 18446744073709551616 ∧ i = .int .u64 k ∧ x = .int .u64 p ∧ Hid (p = pwN k)) (fun _ i => 65 - (intOf i).toNat)
  case atStart => exact ⟨0, 1, by omega, by omega, by omega, rfl, rfl, rfl⟩
  case round =>
    obtain ⟨k, p, hk, hk2, hp, rfl, rfl, H⟩ := hrel
    rcases (show (k < n ∧ k < 64) ∨ (k < n ∧ k = 64) ∨ k = n from by omega) with ⟨hk3, hk4⟩ | ⟨hk3, hk4⟩ | hk3
    · have hpos : 0 < p := by
        rw [H.out, pwN, pow_mod_small hk4]
        exact Nat.two_pow_pos k
      go_wp2
      go_round
      case rel =>
        refine ⟨k + 1, pwN (k + 1), by omega, by omega, pwN_lt _, by go_num, ?_, rfl⟩
        have h := pow_dbl k
        have e : p = pwN k := H.out
        rw [IntKind.wrap_u64, e]
        congr 1
        unfold pwN
        omega
      case measure => simp [intOf]; omega
    · subst hk4
      obtain rfl : p = 0 := by rw [H.out]; rfl
      go_wp2
      go_ret
      exact ⟨ret_nat (by rw [pwN, pow_mod_big (by omega)]), rfl⟩
    · subst hk3
      go_wp2
      go_ret
      exact ⟨ret_nat H.out, rfl⟩
end Go.Proofs.Ytoccmlolgjblcaa
