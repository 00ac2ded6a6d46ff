/- More on the check sum as plain numbers: bits laid over bytes, round by round. Conditions: none; no program in sight. -/
import Derived.Test.YtcffkfjkjclehaaMath
namespace Go.Proofs.Ytcffkfjkjclehaa.CrcMath
theorem pow_lt_256 {k : Nat} (h : k < 8) : 2 ^ k < 256 := Nat.pow_lt_pow_right (by omega) h
theorem xor_byte (e k : Nat) (h : k < 8) : (e ^^^ 2 ^ k) % 256 = e % 256 ^^^ 2 ^ k ∧ (e ^^^ 2 ^ k) / 256 = e / 256 := by
  have hp := pow_lt_256 h
  have h1 : (e ^^^ 2 ^ k) % 2 ^ 8 = e % 2 ^ 8 ^^^ 2 ^ k % 2 ^ 8 := Nat.xor_mod_two_pow
  have h2 : (e ^^^ 2 ^ k) / 2 ^ 8 = e / 2 ^ 8 ^^^ 2 ^ k / 2 ^ 8 := Nat.xor_div_two_pow
  refine ⟨?_, ?_⟩
  · rw [show (256 : Nat) = 2 ^ 8 from rfl, h1, Nat.mod_eq_of_lt (a := 2 ^ k) (by omega)]
  · rw [show (256 : Nat) = 2 ^ 8 from rfl, h2, Nat.div_eq_of_lt (a := 2 ^ k) (by omega), Nat.xor_zero]
theorem xor_rest (e k : Nat) (h : 8 ≤ k) : (e ^^^ 2 ^ k) % 256 = e % 256 ∧ (e ^^^ 2 ^ k) / 256 = e / 256 ^^^ 2 ^ (k - 8) := by
  obtain ⟨j, rfl⟩ : ∃ j, k = j + 8 := ⟨k - 8, by omega⟩
  have hp : 2 ^ (j + 8) = 2 ^ j * 256 := Nat.pow_add 2 j 8
  have h1 : (e ^^^ 2 ^ (j + 8)) % 2 ^ 8 = e % 2 ^ 8 ^^^ 2 ^ (j + 8) % 2 ^ 8 := Nat.xor_mod_two_pow
  have h2 : (e ^^^ 2 ^ (j + 8)) / 2 ^ 8 = e / 2 ^ 8 ^^^ 2 ^ (j + 8) / 2 ^ 8 := Nat.xor_div_two_pow
  have h3 : 2 ^ (j + 8) % 256 = 0 := by rw [hp, Nat.mul_mod_left]
  have h4 : 2 ^ (j + 8) / 256 = 2 ^ j := by rw [hp, Nat.mul_div_cancel _ (by omega)]
  refine ⟨?_, ?_⟩
  · rw [show (256 : Nat) = 2 ^ 8 from rfl, h1, show (2 : Nat) ^ 8 = 256 from rfl, h3, Nat.xor_zero]
  · rw [show (256 : Nat) = 2 ^ 8 from rfl, h2, show (2 : Nat) ^ 8 = 256 from rfl, h4, Nat.add_sub_cancel]
theorem over_bit (l : List Nat) (e k : Nat) (hk : k < 8 * l.length) : over l (e ^^^ 2 ^ k) = (over l e).set (k / 8) ((over l e).getD (k / 8) 0 ^^^ 2 ^ (k % 8)) := by
  induction l generalizing e k with
  | nil => simp at hk
  | cons b l ih =>
    by_cases h : k < 8
    · obtain ⟨h1, h2⟩ := xor_byte e k h
      rw [show k / 8 = 0 from by omega, show k % 8 = k from by omega]
      simp [over, h1, h2, Nat.xor_assoc]
    · obtain ⟨h1, h2⟩ := xor_rest e k (by omega)
      have hi := ih (e / 256) (k - 8) (by simp at hk; omega)
      rw [show k / 8 = (k - 8) / 8 + 1 from by omega, show k % 8 = (k - 8) % 8 from by omega]
      simp only [over, h1, h2, List.set_cons_succ, List.getD_cons_succ, hi]
theorem over_zero (l : List Nat) (h : ∀ b ∈ l, b < 256) : over l 0 = l := by
  induction l with
  | nil => rfl
  | cons b l ih => simp [over, ih (fun x hx => h x (by simp [hx]))]
theorem over_small (l : List Nat) (e : Nat) (h : ∀ b ∈ l, b < 256) : ∀ b ∈ over l e, b < 256 := by
  induction l generalizing e with
  | nil => intro b hb; cases hb
  | cons b l ih =>
    intro x hx
    simp only [over, List.mem_cons] at hx
    rcases hx with rfl | hx
    · exact Nat.xor_lt_two_pow (n := 8) (h b (by simp)) (Nat.mod_lt _ (by omega))
    · exact ih _ (fun y hy => h y (by simp [hy])) x hx
/-- the change behind i rounds -/
def run (r f i : Nat) : Nat := r % 2 ^ i * 2 ^ f
theorem run_zero (r f : Nat) : run r f 0 = 0 := by simp [run, Nat.mod_one]
theorem mod_succ (r i : Nat) : r % 2 ^ (i + 1) = r % 2 ^ i + 2 ^ i * (r / 2 ^ i % 2) := by
  rw [Nat.pow_succ, Nat.mod_mul]
theorem run_no (r f i : Nat) (h : r / 2 ^ i % 2 ≠ 1) : run r f (i + 1) = run r f i ∧ r % 2 ^ (i + 1) = r % 2 ^ i := by
  have h0 : r / 2 ^ i % 2 = 0 := by omega
  have := mod_succ r i
  rw [h0] at this
  refine ⟨?_, by omega⟩
  unfold run
  rw [this]
  simp
theorem add_bit (x i : Nat) (h : x < 2 ^ i) : x + 2 ^ i = x ^^^ 2 ^ i := by
  apply Nat.eq_of_testBit_eq
  intro j
  rw [Nat.testBit_xor, Nat.add_comm, Nat.testBit_two_pow]
  by_cases hj : j < i
  · rw [Nat.testBit_two_pow_add_gt hj]; simp [show i ≠ j from by omega]
  · by_cases hj2 : j = i
    · subst hj2
      rw [Nat.testBit_two_pow_add_eq, Nat.testBit_lt_two_pow h]; simp
    · have h1 : x + 2 ^ i < 2 ^ j := by
        have : 2 ^ (i + 1) ≤ 2 ^ j := Nat.pow_le_pow_right (by omega) (by omega)
        rw [Nat.pow_succ] at this
        omega
      rw [Nat.add_comm, Nat.testBit_lt_two_pow h1, Nat.testBit_lt_two_pow (Nat.lt_of_lt_of_le h (Nat.pow_le_pow_right (by omega) (by omega)))]
      simp [show i ≠ j from by omega]
theorem shl_xor (a b f : Nat) : (a ^^^ b) * 2 ^ f = a * 2 ^ f ^^^ b * 2 ^ f := by
  rw [← Nat.shiftLeft_eq, ← Nat.shiftLeft_eq, ← Nat.shiftLeft_eq, Nat.shiftLeft_xor_distrib]
theorem run_yes (r f i : Nat) (h : r / 2 ^ i % 2 = 1) : run r f (i + 1) = run r f i ^^^ 2 ^ (f + i) ∧ r % 2 ^ (i + 1) ≠ 0 := by
  have hm := mod_succ r i
  rw [h, Nat.mul_one] at hm
  have hp : 0 < 2 ^ i := Nat.two_pow_pos i
  refine ⟨?_, by omega⟩
  unfold run
  rw [hm, add_bit _ _ (Nat.mod_lt _ hp), shl_xor, Nat.pow_add, Nat.mul_comm (2 ^ f)]
theorem run_lt (r f i n : Nat) (h : f + i ≤ 8 * n) : run r f i < 2 ^ (8 * n) := by
  have h1 : r % 2 ^ i < 2 ^ i := Nat.mod_lt _ (Nat.two_pow_pos i)
  have h2 : r % 2 ^ i * 2 ^ f < 2 ^ i * 2 ^ f := Nat.mul_lt_mul_of_pos_right h1 (Nat.two_pow_pos f)
  rw [← Nat.pow_add] at h2
  exact Nat.lt_of_lt_of_le h2 (Nat.pow_le_pow_right (by omega) (by omega))
theorem run_tells (l : List Nat) (r f i : Nat) (h : f + i ≤ 8 * l.length) (hi : i ≤ 32) : (sumFrom 0 l = sumFrom 0 (over l (run r f i))) ↔ r % 2 ^ i = 0 := by
  refine burst l f (r % 2 ^ i) ?_ (run_lt r f i _ h) (by omega)
  have h1 : r % 2 ^ i < 2 ^ i := Nat.mod_lt _ (Nat.two_pow_pos i)
  have h2 : 2 ^ i ≤ 2 ^ 32 := Nat.pow_le_pow_right (by omega) hi
  omega
end Go.Proofs.Ytcffkfjkjclehaa.CrcMath
