/- The contracts of chapter 1's functions that shift, fold and turn. Conditions: numbers fit their kinds. -/
import Derived.Test.YtoccmlolgjblcaaWalks
namespace Go.Proofs.Ytoccmlolgjblcaa
open Go.ChangeShapes Go.WideShapes Go.ChangeAt Go.RowKit
open NumMath
set_option linter.unusedVariables false
set_option linter.unusedSimpArgs false

def lft (n k : Nat) : Nat := n * pwN k % 18446744073709551616
def rgt (n k : Nat) : Nat := n / 2 ^ k
theorem lft_lt (n k : Nat) : lft n k < 18446744073709551616 := Nat.mod_lt _ (by omega)
theorem rgt_lt {n : Nat} (k : Nat) (h : n < 18446744073709551616) : rgt n k < 18446744073709551616 := Nat.lt_of_le_of_lt (Nat.div_le_self _ _) h
theorem lft_form (n k : Nat) : IntKind.u64.wrap ((n : Int) * 2 ^ min k 64) = ((lft n k : Nat) : Int) := by
  have h := shl_min n k
  have e : (n : Int) * 2 ^ min k 64 = ((n * 2 ^ min k 64 : Nat) : Int) := by rw [Int.natCast_mul, Int.natCast_pow]; rfl
  rw [IntKind.wrap_u64, e]
  unfold lft pwN
  rw [← h]
  omega
theorem left_any (n k : Nat) (w : World) (h2 : k < 18446744073709551616) :
    Calls Try.prog 23 #[.int .u64 n, .int .u64 k] w fun e w' => e = .returned (.int .u64 (lft n k : Nat)) ∧ w = w' := by
  go_enter Try.func23, Try.ntmps23
  go_wp2
  go_ret
  exact ⟨ret_int (lft_form n k), rfl⟩
theorem refleft_any (n k : Nat) (w : World) (h2 : k < 18446744073709551616) :
    Calls Try.prog 25 #[.int .u64 n, .int .u64 k] w fun e w' => e = .returned (.int .u64 (lft n k : Nat)) ∧ w = w' := by
  have h : IntKind.u64.wrap ((n : Int) * ((pwN k : Nat) : Int)) = ((lft n k : Nat) : Int) := by
    rw [IntKind.wrap_u64, ← Int.natCast_mul]
    unfold lft
    omega
  go_enter Try.func25, Try.ntmps25
  go_wp2_with (go_at_call 38; refine (power_any _ _ (by assumption)).mono ?_; rintro e w' ⟨rfl, rfl⟩)
  go_ret
  exact ⟨ret_int h, rfl⟩
theorem rgt_form (n k : Nat) (h : n < 18446744073709551616) : (n : Int) / 2 ^ min k 64 = ((rgt n k : Nat) : Int) := by
  have e : (n : Int) / 2 ^ min k 64 = ((n / 2 ^ min k 64 : Nat) : Int) := by rw [Int.natCast_ediv, Int.natCast_pow]; rfl
  rw [e, shr_min n k h]
  rfl
theorem right_any (n k : Nat) (w : World) (h1 : n < 18446744073709551616) (h2 : k < 18446744073709551616) :
    Calls Try.prog 22 #[.int .u64 n, .int .u64 k] w fun e w' => e = .returned (.int .u64 (rgt n k : Nat)) ∧ w = w' := by
  go_enter Try.func22, Try.ntmps22
  go_wp2
  go_ret
  exact ⟨ret_int (rgt_form n k h1), rfl⟩
theorem rgt_succ (n j : Nat) : rgt n (j + 1) = rgt n j / 2 := by unfold rgt; rw [Nat.pow_succ, Nat.div_div_eq_div_mul]
theorem rgt_none {n j k : Nat} (h : rgt n j = 0) (hk : j ≤ k) : rgt n k = 0 := by
  obtain ⟨d, rfl⟩ : ∃ d, k = j + d := ⟨k - j, by omega⟩
  have : rgt n (j + d) = rgt n j / 2 ^ d := by unfold rgt; rw [Nat.pow_add, Nat.div_div_eq_div_mul]
  rw [this, h, Nat.zero_div]
theorem rgt_64 {n : Nat} (h : n < 18446744073709551616) {j : Nat} (hj : 64 ≤ j) : rgt n j = 0 := by
  have h0 : rgt n 64 = 0 := by unfold rgt; rw [show (2 : Nat) ^ 64 = 18446744073709551616 from rfl]; omega
  exact rgt_none h0 hj
theorem refright_any (n k : Nat) (w : World) (h1 : n < 18446744073709551616) (h2 : k < 18446744073709551616) :
    Calls Try.prog 26 #[.int .u64 n, .int .u64 k] w fun e w' => e = .returned (.int .u64 (rgt n k : Nat)) ∧ w = w' := by
  go_enter Try.func26, Try.ntmps26
  go_wp2
  go_loop [0, 5] (fun x i => ∃ j m : Nat, j ≤ k ∧ j ≤ 64 ∧ m < 18446744073709551616 ∧ i = .int .u64 j ∧ x = .int .u64 m ∧ Hid (m = rgt n j)) (fun _ i => 65 - (intOf i).toNat)
  case atStart => exact ⟨0, n, by omega, by omega, h1, rfl, rfl, by show n = rgt n 0; simp [rgt]⟩
  case round =>
    obtain ⟨j, m, hj, hj2, hm, rfl, rfl, H⟩ := hrel
    rcases (show (j < k ∧ 0 < m) ∨ (j < k ∧ m = 0) ∨ j = k from by omega) with ⟨hj3, hm2⟩ | ⟨hj3, hm2⟩ | hj3
    · have hj4 : j < 64 := by
        rcases Nat.lt_or_ge j 64 with q | q
        · exact q
        · have e := H.out
          rw [rgt_64 h1 q] at e
          omega
      go_wp2
      go_round
      case rel =>
        refine ⟨j + 1, m / 2, by omega, by omega, by omega, by go_num, by go_num, ?_⟩
        show m / 2 = rgt n (j + 1)
        rw [rgt_succ, ← H.out]
      case measure => simp [intOf]; omega
    · subst hm2
      go_wp2
      go_ret
      exact ⟨ret_nat (rgt_none H.out.symm hj).symm, rfl⟩
    · subst hj3
      go_wp2
      go_ret
      exact ⟨ret_nat H.out, rfl⟩

def ari (v : Int) (k : Nat) : Int := v / 2 ^ k
theorem ari_more (v : Int) (j d : Nat) : ari v (j + d) = ari v j / 2 ^ d := by
  unfold ari
  rw [Int.pow_add, Int.ediv_ediv_of_nonneg (Int.le_of_lt (Int.pow_pos (by omega)))]
theorem ari_in {v : Int} (h1 : -9223372036854775808 ≤ v) (h3 : v ≤ 9223372036854775807) (k : Nat) : -9223372036854775808 ≤ ari v k ∧ ari v k ≤ 9223372036854775807 := by
  have hp : (0 : Int) < 2 ^ k := Int.pow_pos (by omega)
  unfold ari
  constructor
  · exact Int.le_ediv_of_mul_le hp (by
      have : (-9223372036854775808 : Int) * 2 ^ k ≤ -9223372036854775808 * 1 := Int.mul_le_mul_of_nonpos_left (by omega) (by omega)
      omega)
  · by_cases h : 0 ≤ v
    · have := Int.ediv_le_self (2 ^ k) h
      omega
    · have := Int.ediv_neg_of_neg_of_pos (show v < 0 by omega) hp
      omega
theorem ari_63 {v : Int} (h1 : -9223372036854775808 ≤ v) (h3 : v ≤ 9223372036854775807) {k : Nat} (hk : 63 ≤ k) : ari v k = 0 ∨ ari v k = -1 := by
  have h0 : ari v 63 = 0 ∨ ari v 63 = -1 := by unfold ari; rw [show (2 : Int) ^ 63 = 9223372036854775808 from rfl]; omega
  obtain ⟨d, rfl⟩ : ∃ d, k = 63 + d := ⟨k - 63, by omega⟩
  rw [ari_more]
  rcases h0 with h | h <;> rw [h]
  · exact .inl (stays_zero d)
  · exact .inr (stays_minus d)
theorem ari_stays {v : Int} {j k : Nat} (hj : j ≤ k) (h : ari v j = 0 ∨ ari v j = -1) : ari v k = ari v j := by
  obtain ⟨d, rfl⟩ : ∃ d, k = j + d := ⟨k - j, by omega⟩
  rw [ari_more]
  rcases h with h | h <;> rw [h]
  · exact stays_zero d
  · exact stays_minus d
theorem ari_form {v : Int} (h1 : -9223372036854775808 ≤ v) (h3 : v ≤ 9223372036854775807) (k : Nat) : v / 2 ^ min k 64 = ari v k := by
  rcases Nat.lt_or_ge k 64 with h | h
  · rw [Nat.min_eq_left (by omega)]; rfl
  · rw [Nat.min_eq_right h]
    exact (ari_stays h (ari_63 h1 h3 (by omega))).symm
theorem arith_any (v : Int) (k : Nat) (w : World) (h1 : -9223372036854775808 ≤ v) (h3 : v ≤ 9223372036854775807) (h2 : k < 18446744073709551616) :
    Calls Try.prog 27 #[.int .i64 v, .int .u64 k] w fun e w' => e = .returned (.int .i64 (ari v k)) ∧ w = w' := by
  go_enter Try.func27, Try.ntmps27
  go_wp2
  go_ret
  exact ⟨ret_int (ari_form h1 h3 k), rfl⟩
theorem refarith_any (v : Int) (k : Nat) (w : World) (h1 : -9223372036854775808 ≤ v) (h3 : v ≤ 9223372036854775807) (h2 : k < 18446744073709551616) :
    Calls Try.prog 28 #[.int .i64 v, .int .u64 k] w fun e w' => e = .returned (.int .i64 (ari v k)) ∧ w = w' := by
  go_enter Try.func28, Try.ntmps28
  go_wp2
  go_loop [0, 5] (fun x i => ∃ (j : Nat) (m : Int), j ≤ k ∧ j ≤ 64 ∧ -9223372036854775808 ≤ m ∧ m ≤ 9223372036854775807 ∧ i = .int .u64 j ∧ x = .int .i64 m ∧ Hid (m = ari v j)) (fun _ i => 65 - (intOf i).toNat)
  case atStart => exact ⟨0, v, by omega, by omega, h1, h3, rfl, rfl, by show v = ari v 0; simp [ari]⟩
  case round =>
    obtain ⟨j, m, hj, hj2, hm, hm2, rfl, rfl, H⟩ := hrel
    rcases (show (j < k ∧ m ≠ 0 ∧ m ≠ -1) ∨ (j < k ∧ m = 0) ∨ (j < k ∧ m = -1) ∨ j = k from by omega) with ⟨hj3, hm3, hm4⟩ | ⟨hj3, hm3⟩ | ⟨hj3, hm3⟩ | hj3
    · have hj4 : j < 63 := by
        rcases Nat.lt_or_ge j 63 with q | q
        · exact q
        · have e := H.out
          rcases ari_63 h1 h3 q with h | h <;> omega
      have b0 : (m == 0) = false := beq_eq_false_iff_ne.2 hm3
      have b1 : (m == -1) = false := beq_eq_false_iff_ne.2 hm4
      have c0 : (m != 0) = true := bne_iff_ne.2 hm3
      have c1 : (m != -1) = true := bne_iff_ne.2 hm4
      have hs : m / 2 = ari v (j + 1) := by rw [ari_more, ← H.out]; rfl
      have HS := Lib.hid hs
      clear hs
      rcases Int.lt_or_le m 0 with hn | hn
      · have ht : (m + 1).tdiv 2 = m / 2 + 1 := by
          have e : m + 1 = -(-(m + 1)) := by omega
          rw [e, Int.neg_tdiv, Int.tdiv_eq_ediv_of_nonneg (by omega)]
          omega
        go_wp2
        go_round
        case rel =>
          refine ⟨j + 1, m / 2, by omega, by omega, by omega, by omega, by go_num, ?_, HS.out⟩
          congr 1; omega
        case measure => simp [intOf]; omega
      · go_wp2
        go_round
        case rel => exact ⟨j + 1, m / 2, by omega, by omega, by omega, by omega, by go_num, rfl, HS.out⟩
        case measure => simp [intOf]; omega
    · subst hm3
      go_wp2
      go_ret
      exact ⟨ret_int (by rw [ari_stays hj (.inl H.out.symm)]; exact H.out), rfl⟩
    · subst hm3
      go_wp2
      go_ret
      exact ⟨ret_int (by rw [ari_stays hj (.inr H.out.symm)]; exact H.out), rfl⟩
    · subst hj3
      go_wp2
      go_ret
      exact ⟨ret_int H.out, rfl⟩

theorem reffold_any (v : Int) (w : World) (h1 : -9223372036854775808 ≤ v) (h3 : v ≤ 9223372036854775807) :
    Calls Try.prog 14 #[.int .i64 v] w fun e w' => e = .returned (.int .u64 (foldN v : Nat)) ∧ w = w' := by
  have hf := foldN_is v
  have HF := Lib.hid hf
  clear hf
  by_cases hv : 0 ≤ v
  all_goals
    go_enter Try.func14, Try.ntmps14
    go_wp2
    go_ret
    exact ⟨ret_int (by rw [HF.out]; first | rw [if_pos hv] | (rw [if_neg (by omega)]; omega)), rfl⟩
theorem refunfold_any (n : Nat) (w : World) (h1 : n < 18446744073709551616) :
    Calls Try.prog 17 #[.int .u64 n] w fun e w' => e = .returned (.int .i64 (unfoldI n)) ∧ w = w' := by
  rcases Nat.mod_two_eq_zero_or_one n with hb | hb
  · have h : ((n : Int) % 2 == 0) = true := by rw [beq_iff_eq]; omega
    have e : unfoldI n = (n : Int) / 2 := by unfold unfoldI; rw [if_pos hb]; omega
    rw [e]
    clear e hb
    go_enter Try.func17, Try.ntmps17
    go_wp2
    go_ret
    exact ⟨rfl, rfl⟩
  · have h : ((n : Int) % 2 == 0) = false := by rw [beq_eq_false_iff_ne]; omega
    have e : unfoldI n = -((n : Int) / 2) - 1 := by unfold unfoldI; rw [if_neg (by omega)]; omega
    rw [e]
    clear e hb
    go_enter Try.func17, Try.ntmps17
    go_wp2
    go_ret
    exact ⟨rfl, rfl⟩
end Go.Proofs.Ytoccmlolgjblcaa
