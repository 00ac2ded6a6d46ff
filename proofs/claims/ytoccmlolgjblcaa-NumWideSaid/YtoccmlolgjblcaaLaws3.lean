/- A law of chapter 1, walked: what is turned is turned back. Conditions: none beyond what the rows say. -/
import Derived.Test.YtoccmlolgjblcaaLaws2
namespace Go.Proofs.Ytoccmlolgjblcaa
open Go.ChangeShapes Go.WideShapes Go.ChangeAt Go.RowKit
open NumMath
set_option linter.unusedVariables false
set_option linter.unusedSimpArgs false
set_option maxRecDepth 20000

theorem back_zero (n : Nat) (h : n < 18446744073709551616) : rgt (lft n 0) 0 = n := by
  unfold rgt lft pwN; simp; omega
theorem back_big (n s : Nat) (hs : 64 ≤ s) : rgt (lft n s) s = 0 := by
  unfold rgt lft pwN; rw [pow_mod_big hs]; simp
theorem back_mid (n s : Nat) (hs : s < 64) : rgt (lft n s) s = n % 2 ^ (64 - s) := by
  unfold rgt lft pwN
  rw [pow_mod_small hs]
  have hp : 2 ^ (64 - s) * 2 ^ s = 18446744073709551616 := by rw [← Nat.pow_add, show 64 - s + s = 64 from by omega]
  rw [← hp, Nat.mul_mod_mul_right, Nat.mul_div_cancel _ (Nat.two_pow_pos s)]
theorem far_neg (k : Int) : far (-k) = (64 - far k) % 64 := by unfold far; omega
theorem sgn_again (n b y : Nat) (hb : b ≤ 62) (hy : (y : Int) = sgn n b % 18446744073709551616) : sgn y 64 = sgn n b ∧ sgn y b = sgn n b := by
  rcases Nat.eq_zero_or_pos b with h | h
  · subst h
    have e : sgn n ((0 : Nat) : Int) = 0 := by unfold sgn; rw [if_pos (by omega)]
    rw [e] at hy ⊢
    obtain rfl : y = 0 := by omega
    exact ⟨by decide +kernel, by decide +kernel⟩
  · have e : sgn n b = bm n b := by unfold sgn; rw [if_neg (by omega)]; congr 1; omega
    have e1 : sgn y b = bm y b := by unfold sgn; rw [if_neg (by omega)]; congr 1; omega
    have e2 : sgn y 64 = bm y 64 := by unfold sgn; rw [if_neg (by omega)]; rfl
    rw [e] at hy ⊢
    rw [e1, e2, hy, show (18446744073709551616 : Int) = 2 ^ 64 from rfl]
    exact ⟨bm_again n b 64 h (by omega) (by omega), bm_again n b b h (by omega) (by omega)⟩

theorem sgn_in (n b : Nat) (hb : b ≤ 62) : -9223372036854775808 ≤ sgn n b ∧ sgn n b ≤ 9223372036854775807 := by
  rcases Nat.eq_zero_or_pos b with h | h
  · subst h
    have e : sgn n ((0 : Nat) : Int) = 0 := by unfold sgn; rw [if_pos (by omega)]
    rw [e]; omega
  · have e : sgn n b = bm n b := by unfold sgn; rw [if_neg (by omega)]; congr 1; omega
    have h2 := bm_bounds n b h
    have h3 : (2 : Int) ^ (b - 1) ≤ 9223372036854775808 := by
      have h4 : (2 : Nat) ^ (b - 1) ≤ 2 ^ 63 := Nat.pow_le_pow_right (by omega) (by omega)
      have e1 : ((2 ^ (b - 1) : Nat) : Int) = (2 : Int) ^ (b - 1) := Int.natCast_pow 2 _
      rw [← e1]
      have h5 : ((2 ^ (b - 1) : Nat) : Int) ≤ ((2 ^ 63 : Nat) : Int) := Int.ofNat_le.2 h4
      exact Int.le_trans h5 (by decide)
    rw [e]; omega
theorem again (n b : Nat) (hb : b ≤ 62) : ∃ y : Nat, IntKind.u64.wrap (sgn n b) = (y : Int) ∧ y < 18446744073709551616 ∧ sgn y 64 = sgn n b ∧ sgn y b = sgn n b := by
  refine ⟨(sgn n b % 18446744073709551616).toNat, ?_, ?_, ?_⟩
  · rw [IntKind.wrap_u64, Int.toNat_of_nonneg (Int.emod_nonneg _ (by decide))]
  · have := Int.emod_lt_of_pos (sgn n b) (show (0 : Int) < 18446744073709551616 by decide)
    have := Int.emod_nonneg (sgn n b) (show (18446744073709551616 : Int) ≠ 0 by decide)
    generalize sgn n b % 18446744073709551616 = z at *
    omega
  · exact sgn_again n b _ hb (Int.toNat_of_nonneg (Int.emod_nonneg _ (by decide)))
theorem power_form (s : Nat) (h1 : 0 < s) (h2 : s < 64) : ∃ P : Nat, P = 2 ^ (64 - s) ∧ IntKind.u64.wrap (2 ^ (64 - s)) = (P : Int) ∧ 1 ≤ P ∧ P < 18446744073709551616 := by
  have e1 : ((2 ^ (64 - s) : Nat) : Int) = (2 : Int) ^ (64 - s) := Int.natCast_pow 2 _
  have hp : 2 ^ (64 - s) ≤ 2 ^ 63 := Nat.pow_le_pow_right (by omega) (by omega)
  have hp0 : 0 < 2 ^ (64 - s) := Nat.two_pow_pos _
  refine ⟨_, rfl, ?_, hp0, Nat.lt_of_le_of_lt hp (by decide)⟩
  rw [IntKind.wrap_u64, ← e1]
  generalize 2 ^ (64 - s) = z at *
  have : z < 18446744073709551616 := Nat.lt_of_le_of_lt hp (by decide)
  omega
/-- The end of the law: the turns and signs; what was shifted is decided. -/
theorem far_facts (n : Nat) (k : Int) (hn : n < 18446744073709551616) : rot (rot n (far k)) (far (-k)) = n ∧ rot (rot n (far 0)) (far 0) = n ∧ rot (rot n (far (-9223372036854775808))) (far 0) = n ∧ rot n (far k) < 18446744073709551616 := by
  have hrb := rot_back0 n (far k) hn (far_lt k)
  rw [← far_neg] at hrb
  have hz : far 0 = 0 := by decide
  have hmn : far (-9223372036854775808) = 0 := by decide
  refine ⟨hrb, ?_, ?_, rot_lt n _ hn (far_lt k)⟩
  · rw [hz, rot_zero n hn, rot_zero n hn]
  · rw [hz, hmn, rot_zero n hn, rot_zero n hn]

set_option maxHeartbeats 8000000 in
theorem numTurns_walk (a0 : Int) (a1 : Int) (a2 : Int) (w0 : (Lit.int .u64 a0).wf = true) (w1 : (Lit.int .i64 a1).wf = true) (w2 : (Lit.int .u8 a2).wf = true) (w : World) :
    Calls Try.prog 5 #[.int .u64 a0, .int .i64 a1, .int .u8 a2] w fun e w' => e = .returned (.bool true) ∧ Below w.heap.size w w' := by
  obtain ⟨n, rfl, hn⟩ := nat_u64 w0
  obtain ⟨x, rfl, hx⟩ := nat_u8 w2
  obtain ⟨v1, v2⟩ := in_i64 w1
  clear w0 w1 w2
  obtain ⟨s, hs, hs1⟩ : ∃ s : Nat, (x : Int) % 70 = (s : Int) ∧ s < 70 := ⟨x % 70, by omega, by omega⟩
  obtain ⟨b, hb, hbl⟩ : ∃ b : Nat, (x : Int) % 63 = (b : Int) ∧ b ≤ 62 := ⟨x % 63, by omega, by omega⟩
  obtain ⟨y, hyw, hyl, hg1, hg2⟩ := again n b hbl
  obtain ⟨hsi1, hsi2⟩ := sgn_in n b hbl
  obtain ⟨hr1, hr2, hr3, hr4⟩ := far_facts n a1 hn
  have hlt : s < 18446744073709551616 := by omega
  have hll := lft_lt n s
  have HR := Lib.hid (And.intro hr1 (And.intro hr2 hr3))
  have HG1 := Lib.hid hg1
  have HG2 := Lib.hid hg2
  clear hr1 hr2 hr3 hg1 hg2
  rcases (show a1 = 0 ∨ a1 = -9223372036854775808 ∨ (a1 ≠ 0 ∧ -9223372036854775807 ≤ a1) from by omega) with hk | hk | ⟨hk, hk2⟩
  · subst hk
    rcases (show s = 0 ∨ (0 < s ∧ s < 64) ∨ 64 ≤ s from by omega) with h1 | ⟨h1, h2⟩ | h1
    · skip
      subst h1
      have HM := Lib.hid (back_zero n hn)
      have hs' : (x : Int) % 70 = 0 := hs
      clear hs hlt hs1
      go_enter Try.func5, Try.ntmps5
      go_wp2_with fail
      refine (left_any _ 0 _ (by omega)).mono ?_
      rintro e w' ⟨rfl, rfl⟩
      go_wp2_with fail
      refine (right_any _ 0 _ hll (by omega)).mono ?_
      rintro e w' ⟨rfl, rfl⟩
      rw [HM.out]
      clear hll
      go_wp2_with fail
      refine (signed_any _ _ _ hn (by omega) (by omega)).mono ?_
      rintro e w' ⟨rfl, rfl⟩
      go_wp2_with fail
      refine (known_any _).mono ?_
      rintro e w1 ⟨rfl, hb1⟩
      go_wp2_with fail
      refine (turn_any n (0) _ hn (by omega) (by omega)).mono ?_
      rintro e w' ⟨rfl, rfl⟩
      go_wp2_with fail
      refine (turn_any _ (0) _ (by first | exact hr4 | exact rot_lt _ _ hn (far_lt _)) (by omega) (by omega)).mono ?_
      rintro e w' ⟨rfl, rfl⟩
      rw [HR.out.2.1]
      go_wp2_with fail
      refine (signed_any y 64 _ hyl (by omega) (by omega)).mono ?_
      rintro e w' ⟨rfl, rfl⟩
      rw [HG1.out]
      clear hb
      rcases Nat.eq_zero_or_pos b with hz | hz
      · have hb0 : ((b : Int) == 0) = true := by rw [beq_iff_eq]; omega
        clear hz
        go_wp2_with fail
        go_ret
        exact ⟨rfl, hb1⟩
      · have hb0 : ((b : Int) == 0) = false := by rw [beq_eq_false_iff_ne]; omega
        clear hz
        go_wp2_with fail
        refine (signed_any y b _ hyl (by omega) (by omega)).mono ?_
        rintro e w' ⟨rfl, rfl⟩
        rw [HG2.out]
        go_wp2_with fail
        go_ret
        exact ⟨rfl, hb1⟩
    · skip
      obtain ⟨P, hP, hP1, hP2, hP3⟩ := power_form s h1 h2
      have HM := Lib.hid (show rgt (lft n s) s = n % P by rw [hP]; exact back_mid n s h2)
      have hs0 : ((s : Int) == 0) = false := by rw [beq_eq_false_iff_ne]; omega
      have hmo : (n : Int) % (P : Int) = ((n % P : Nat) : Int) := (Int.natCast_emod n P).symm
      obtain ⟨q, hq⟩ : ∃ q, n % P = q := ⟨_, rfl⟩
      rw [hq] at hmo HM
      clear hP hq
      have hdec : decide ((s : Int) < 64) = true := by rw [decide_eq_true_iff]; omega
      go_enter Try.func5, Try.ntmps5
      go_wp2_with fail
      refine (left_any _ s _ hlt).mono ?_
      rintro e w' ⟨rfl, rfl⟩
      go_wp2_with fail
      refine (right_any _ s _ hll hlt).mono ?_
      rintro e w' ⟨rfl, rfl⟩
      rw [HM.out]
      clear hll
      go_wp2_with fail
      refine (signed_any _ _ _ hn (by omega) (by omega)).mono ?_
      rintro e w' ⟨rfl, rfl⟩
      go_wp2_with fail
      refine (known_any _).mono ?_
      rintro e w1 ⟨rfl, hb1⟩
      go_wp2_with fail
      refine (turn_any n (0) _ hn (by omega) (by omega)).mono ?_
      rintro e w' ⟨rfl, rfl⟩
      go_wp2_with fail
      refine (turn_any _ (0) _ (by first | exact hr4 | exact rot_lt _ _ hn (far_lt _)) (by omega) (by omega)).mono ?_
      rintro e w' ⟨rfl, rfl⟩
      rw [HR.out.2.1]
      go_wp2_with fail
      refine (signed_any y 64 _ hyl (by omega) (by omega)).mono ?_
      rintro e w' ⟨rfl, rfl⟩
      rw [HG1.out]
      clear hb
      rcases Nat.eq_zero_or_pos b with hz | hz
      · have hb0 : ((b : Int) == 0) = true := by rw [beq_iff_eq]; omega
        clear hz
        go_wp2_with fail
        go_ret
        exact ⟨rfl, hb1⟩
      · have hb0 : ((b : Int) == 0) = false := by rw [beq_eq_false_iff_ne]; omega
        clear hz
        go_wp2_with fail
        refine (signed_any y b _ hyl (by omega) (by omega)).mono ?_
        rintro e w' ⟨rfl, rfl⟩
        rw [HG2.out]
        go_wp2_with fail
        go_ret
        exact ⟨rfl, hb1⟩
    · skip
      have HM := Lib.hid (back_big n s h1)
      have hp0 : 0 < s := by omega
      have hdec : decide ((s : Int) < 64) = false := by rw [decide_eq_false_iff_not]; omega
      have hs0 : ((s : Int) == 0) = false := by rw [beq_eq_false_iff_ne]; omega
      go_enter Try.func5, Try.ntmps5
      go_wp2_with fail
      refine (left_any _ s _ hlt).mono ?_
      rintro e w' ⟨rfl, rfl⟩
      go_wp2_with fail
      refine (right_any _ s _ hll hlt).mono ?_
      rintro e w' ⟨rfl, rfl⟩
      rw [HM.out]
      clear hll
      go_wp2_with fail
      refine (signed_any _ _ _ hn (by omega) (by omega)).mono ?_
      rintro e w' ⟨rfl, rfl⟩
      go_wp2_with fail
      refine (known_any _).mono ?_
      rintro e w1 ⟨rfl, hb1⟩
      go_wp2_with fail
      refine (turn_any n (0) _ hn (by omega) (by omega)).mono ?_
      rintro e w' ⟨rfl, rfl⟩
      go_wp2_with fail
      refine (turn_any _ (0) _ (by first | exact hr4 | exact rot_lt _ _ hn (far_lt _)) (by omega) (by omega)).mono ?_
      rintro e w' ⟨rfl, rfl⟩
      rw [HR.out.2.1]
      go_wp2_with fail
      refine (signed_any y 64 _ hyl (by omega) (by omega)).mono ?_
      rintro e w' ⟨rfl, rfl⟩
      rw [HG1.out]
      clear hb
      rcases Nat.eq_zero_or_pos b with hz | hz
      · have hb0 : ((b : Int) == 0) = true := by rw [beq_iff_eq]; omega
        clear hz
        go_wp2_with fail
        go_ret
        exact ⟨rfl, hb1⟩
      · have hb0 : ((b : Int) == 0) = false := by rw [beq_eq_false_iff_ne]; omega
        clear hz
        go_wp2_with fail
        refine (signed_any y b _ hyl (by omega) (by omega)).mono ?_
        rintro e w' ⟨rfl, rfl⟩
        rw [HG2.out]
        go_wp2_with fail
        go_ret
        exact ⟨rfl, hb1⟩
  · have hw : wrap64 (-a1) = a1 := by rw [hk, ← IntWalk.i64_left, IntKind.wrap_i64]; omega
    have HR2 := Lib.hid (show rot (rot n (far a1)) (far 0) = n by rw [hk]; exact HR.out.2.2)
    clear hk
    rcases (show s = 0 ∨ (0 < s ∧ s < 64) ∨ 64 ≤ s from by omega) with h1 | ⟨h1, h2⟩ | h1
    · skip
      subst h1
      have HM := Lib.hid (back_zero n hn)
      have hs' : (x : Int) % 70 = 0 := hs
      clear hs hlt hs1
      go_enter Try.func5, Try.ntmps5
      go_wp2_with fail
      refine (left_any _ 0 _ (by omega)).mono ?_
      rintro e w' ⟨rfl, rfl⟩
      go_wp2_with fail
      refine (right_any _ 0 _ hll (by omega)).mono ?_
      rintro e w' ⟨rfl, rfl⟩
      rw [HM.out]
      clear hll
      go_wp2_with fail
      refine (signed_any _ _ _ hn (by omega) (by omega)).mono ?_
      rintro e w' ⟨rfl, rfl⟩
      go_wp2_with fail
      refine (known_any _).mono ?_
      rintro e w1 ⟨rfl, hb1⟩
      go_wp2_with fail
      refine (turn_any n a1 _ hn (by omega) (by omega)).mono ?_
      rintro e w' ⟨rfl, rfl⟩
      go_wp2_with fail
      refine (turn_any _ (0) _ (by first | exact hr4 | exact rot_lt _ _ hn (far_lt _)) (by omega) (by omega)).mono ?_
      rintro e w' ⟨rfl, rfl⟩
      rw [HR2.out]
      go_wp2_with fail
      refine (signed_any y 64 _ hyl (by omega) (by omega)).mono ?_
      rintro e w' ⟨rfl, rfl⟩
      rw [HG1.out]
      clear hb
      rcases Nat.eq_zero_or_pos b with hz | hz
      · have hb0 : ((b : Int) == 0) = true := by rw [beq_iff_eq]; omega
        clear hz
        go_wp2_with fail
        go_ret
        exact ⟨rfl, hb1⟩
      · have hb0 : ((b : Int) == 0) = false := by rw [beq_eq_false_iff_ne]; omega
        clear hz
        go_wp2_with fail
        refine (signed_any y b _ hyl (by omega) (by omega)).mono ?_
        rintro e w' ⟨rfl, rfl⟩
        rw [HG2.out]
        go_wp2_with fail
        go_ret
        exact ⟨rfl, hb1⟩
    · skip
      obtain ⟨P, hP, hP1, hP2, hP3⟩ := power_form s h1 h2
      have HM := Lib.hid (show rgt (lft n s) s = n % P by rw [hP]; exact back_mid n s h2)
      have hs0 : ((s : Int) == 0) = false := by rw [beq_eq_false_iff_ne]; omega
      have hmo : (n : Int) % (P : Int) = ((n % P : Nat) : Int) := (Int.natCast_emod n P).symm
      obtain ⟨q, hq⟩ : ∃ q, n % P = q := ⟨_, rfl⟩
      rw [hq] at hmo HM
      clear hP hq
      have hdec : decide ((s : Int) < 64) = true := by rw [decide_eq_true_iff]; omega
      go_enter Try.func5, Try.ntmps5
      go_wp2_with fail
      refine (left_any _ s _ hlt).mono ?_
      rintro e w' ⟨rfl, rfl⟩
      go_wp2_with fail
      refine (right_any _ s _ hll hlt).mono ?_
      rintro e w' ⟨rfl, rfl⟩
      rw [HM.out]
      clear hll
      go_wp2_with fail
      refine (signed_any _ _ _ hn (by omega) (by omega)).mono ?_
      rintro e w' ⟨rfl, rfl⟩
      go_wp2_with fail
      refine (known_any _).mono ?_
      rintro e w1 ⟨rfl, hb1⟩
      go_wp2_with fail
      refine (turn_any n a1 _ hn (by omega) (by omega)).mono ?_
      rintro e w' ⟨rfl, rfl⟩
      go_wp2_with fail
      refine (turn_any _ (0) _ (by first | exact hr4 | exact rot_lt _ _ hn (far_lt _)) (by omega) (by omega)).mono ?_
      rintro e w' ⟨rfl, rfl⟩
      rw [HR2.out]
      go_wp2_with fail
      refine (signed_any y 64 _ hyl (by omega) (by omega)).mono ?_
      rintro e w' ⟨rfl, rfl⟩
      rw [HG1.out]
      clear hb
      rcases Nat.eq_zero_or_pos b with hz | hz
      · have hb0 : ((b : Int) == 0) = true := by rw [beq_iff_eq]; omega
        clear hz
        go_wp2_with fail
        go_ret
        exact ⟨rfl, hb1⟩
      · have hb0 : ((b : Int) == 0) = false := by rw [beq_eq_false_iff_ne]; omega
        clear hz
        go_wp2_with fail
        refine (signed_any y b _ hyl (by omega) (by omega)).mono ?_
        rintro e w' ⟨rfl, rfl⟩
        rw [HG2.out]
        go_wp2_with fail
        go_ret
        exact ⟨rfl, hb1⟩
    · skip
      have HM := Lib.hid (back_big n s h1)
      have hp0 : 0 < s := by omega
      have hdec : decide ((s : Int) < 64) = false := by rw [decide_eq_false_iff_not]; omega
      have hs0 : ((s : Int) == 0) = false := by rw [beq_eq_false_iff_ne]; omega
      go_enter Try.func5, Try.ntmps5
      go_wp2_with fail
      refine (left_any _ s _ hlt).mono ?_
      rintro e w' ⟨rfl, rfl⟩
      go_wp2_with fail
      refine (right_any _ s _ hll hlt).mono ?_
      rintro e w' ⟨rfl, rfl⟩
      rw [HM.out]
      clear hll
      go_wp2_with fail
      refine (signed_any _ _ _ hn (by omega) (by omega)).mono ?_
      rintro e w' ⟨rfl, rfl⟩
      go_wp2_with fail
      refine (known_any _).mono ?_
      rintro e w1 ⟨rfl, hb1⟩
      go_wp2_with fail
      refine (turn_any n a1 _ hn (by omega) (by omega)).mono ?_
      rintro e w' ⟨rfl, rfl⟩
      go_wp2_with fail
      refine (turn_any _ (0) _ (by first | exact hr4 | exact rot_lt _ _ hn (far_lt _)) (by omega) (by omega)).mono ?_
      rintro e w' ⟨rfl, rfl⟩
      rw [HR2.out]
      go_wp2_with fail
      refine (signed_any y 64 _ hyl (by omega) (by omega)).mono ?_
      rintro e w' ⟨rfl, rfl⟩
      rw [HG1.out]
      clear hb
      rcases Nat.eq_zero_or_pos b with hz | hz
      · have hb0 : ((b : Int) == 0) = true := by rw [beq_iff_eq]; omega
        clear hz
        go_wp2_with fail
        go_ret
        exact ⟨rfl, hb1⟩
      · have hb0 : ((b : Int) == 0) = false := by rw [beq_eq_false_iff_ne]; omega
        clear hz
        go_wp2_with fail
        refine (signed_any y b _ hyl (by omega) (by omega)).mono ?_
        rintro e w' ⟨rfl, rfl⟩
        rw [HG2.out]
        go_wp2_with fail
        go_ret
        exact ⟨rfl, hb1⟩
  · skip
    have hkb : (a1 == -a1) = false := by rw [beq_eq_false_iff_ne]; omega
    clear hk v1
    rcases (show s = 0 ∨ (0 < s ∧ s < 64) ∨ 64 ≤ s from by omega) with h1 | ⟨h1, h2⟩ | h1
    · skip
      subst h1
      have HM := Lib.hid (back_zero n hn)
      have hs' : (x : Int) % 70 = 0 := hs
      clear hs hlt hs1
      go_enter Try.func5, Try.ntmps5
      go_wp2_with fail
      refine (left_any _ 0 _ (by omega)).mono ?_
      rintro e w' ⟨rfl, rfl⟩
      go_wp2_with fail
      refine (right_any _ 0 _ hll (by omega)).mono ?_
      rintro e w' ⟨rfl, rfl⟩
      rw [HM.out]
      clear hll
      go_wp2_with fail
      refine (signed_any _ _ _ hn (by omega) (by omega)).mono ?_
      rintro e w' ⟨rfl, rfl⟩
      go_wp2_with fail
      refine (known_any _).mono ?_
      rintro e w1 ⟨rfl, hb1⟩
      go_wp2_with fail
      refine (turn_any n (a1) _ hn (by omega) (by omega)).mono ?_
      rintro e w' ⟨rfl, rfl⟩
      go_wp2_with fail
      refine (turn_any _ (-a1) _ (by first | exact hr4 | exact rot_lt _ _ hn (far_lt _)) (by omega) (by omega)).mono ?_
      rintro e w' ⟨rfl, rfl⟩
      rw [HR.out.1]
      go_wp2_with fail
      refine (signed_any y 64 _ hyl (by omega) (by omega)).mono ?_
      rintro e w' ⟨rfl, rfl⟩
      rw [HG1.out]
      clear hb
      rcases Nat.eq_zero_or_pos b with hz | hz
      · have hb0 : ((b : Int) == 0) = true := by rw [beq_iff_eq]; omega
        clear hz
        go_wp2_with fail
        go_ret
        exact ⟨rfl, hb1⟩
      · have hb0 : ((b : Int) == 0) = false := by rw [beq_eq_false_iff_ne]; omega
        clear hz
        go_wp2_with fail
        refine (signed_any y b _ hyl (by omega) (by omega)).mono ?_
        rintro e w' ⟨rfl, rfl⟩
        rw [HG2.out]
        go_wp2_with fail
        go_ret
        exact ⟨rfl, hb1⟩
    · skip
      obtain ⟨P, hP, hP1, hP2, hP3⟩ := power_form s h1 h2
      have HM := Lib.hid (show rgt (lft n s) s = n % P by rw [hP]; exact back_mid n s h2)
      have hs0 : ((s : Int) == 0) = false := by rw [beq_eq_false_iff_ne]; omega
      have hmo : (n : Int) % (P : Int) = ((n % P : Nat) : Int) := (Int.natCast_emod n P).symm
      obtain ⟨q, hq⟩ : ∃ q, n % P = q := ⟨_, rfl⟩
      rw [hq] at hmo HM
      clear hP hq
      have hdec : decide ((s : Int) < 64) = true := by rw [decide_eq_true_iff]; omega
      go_enter Try.func5, Try.ntmps5
      go_wp2_with fail
      refine (left_any _ s _ hlt).mono ?_
      rintro e w' ⟨rfl, rfl⟩
      go_wp2_with fail
      refine (right_any _ s _ hll hlt).mono ?_
      rintro e w' ⟨rfl, rfl⟩
      rw [HM.out]
      clear hll
      go_wp2_with fail
      refine (signed_any _ _ _ hn (by omega) (by omega)).mono ?_
      rintro e w' ⟨rfl, rfl⟩
      go_wp2_with fail
      refine (known_any _).mono ?_
      rintro e w1 ⟨rfl, hb1⟩
      go_wp2_with fail
      refine (turn_any n (a1) _ hn (by omega) (by omega)).mono ?_
      rintro e w' ⟨rfl, rfl⟩
      go_wp2_with fail
      refine (turn_any _ (-a1) _ (by first | exact hr4 | exact rot_lt _ _ hn (far_lt _)) (by omega) (by omega)).mono ?_
      rintro e w' ⟨rfl, rfl⟩
      rw [HR.out.1]
      go_wp2_with fail
      refine (signed_any y 64 _ hyl (by omega) (by omega)).mono ?_
      rintro e w' ⟨rfl, rfl⟩
      rw [HG1.out]
      clear hb
      rcases Nat.eq_zero_or_pos b with hz | hz
      · have hb0 : ((b : Int) == 0) = true := by rw [beq_iff_eq]; omega
        clear hz
        go_wp2_with fail
        go_ret
        exact ⟨rfl, hb1⟩
      · have hb0 : ((b : Int) == 0) = false := by rw [beq_eq_false_iff_ne]; omega
        clear hz
        go_wp2_with fail
        refine (signed_any y b _ hyl (by omega) (by omega)).mono ?_
        rintro e w' ⟨rfl, rfl⟩
        rw [HG2.out]
        go_wp2_with fail
        go_ret
        exact ⟨rfl, hb1⟩
    · skip
      have HM := Lib.hid (back_big n s h1)
      have hp0 : 0 < s := by omega
      have hdec : decide ((s : Int) < 64) = false := by rw [decide_eq_false_iff_not]; omega
      have hs0 : ((s : Int) == 0) = false := by rw [beq_eq_false_iff_ne]; omega
      go_enter Try.func5, Try.ntmps5
      go_wp2_with fail
      refine (left_any _ s _ hlt).mono ?_
      rintro e w' ⟨rfl, rfl⟩
      go_wp2_with fail
      refine (right_any _ s _ hll hlt).mono ?_
      rintro e w' ⟨rfl, rfl⟩
      rw [HM.out]
      clear hll
      go_wp2_with fail
      refine (signed_any _ _ _ hn (by omega) (by omega)).mono ?_
      rintro e w' ⟨rfl, rfl⟩
      go_wp2_with fail
      refine (known_any _).mono ?_
      rintro e w1 ⟨rfl, hb1⟩
      go_wp2_with fail
      refine (turn_any n (a1) _ hn (by omega) (by omega)).mono ?_
      rintro e w' ⟨rfl, rfl⟩
      go_wp2_with fail
      refine (turn_any _ (-a1) _ (by first | exact hr4 | exact rot_lt _ _ hn (far_lt _)) (by omega) (by omega)).mono ?_
      rintro e w' ⟨rfl, rfl⟩
      rw [HR.out.1]
      go_wp2_with fail
      refine (signed_any y 64 _ hyl (by omega) (by omega)).mono ?_
      rintro e w' ⟨rfl, rfl⟩
      rw [HG1.out]
      clear hb
      rcases Nat.eq_zero_or_pos b with hz | hz
      · have hb0 : ((b : Int) == 0) = true := by rw [beq_iff_eq]; omega
        clear hz
        go_wp2_with fail
        go_ret
        exact ⟨rfl, hb1⟩
      · have hb0 : ((b : Int) == 0) = false := by rw [beq_eq_false_iff_ne]; omega
        clear hz
        go_wp2_with fail
        refine (signed_any y b _ hyl (by omega) (by omega)).mono ?_
        rintro e w' ⟨rfl, rfl⟩
        rw [HG2.out]
        go_wp2_with fail
        go_ret
        exact ⟨rfl, hb1⟩
end Go.Proofs.Ytoccmlolgjblcaa
