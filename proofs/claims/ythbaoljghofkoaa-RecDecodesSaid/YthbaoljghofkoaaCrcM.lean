/- The check sum of chapter 2 as plain numbers: it is linear over exclusive or, told apart by byte and by sum, and by any change within 32 bits in a row. Conditions: none; no program in sight. -/
import Derived.KernelRfl
namespace Go.Proofs.Ythbaoljghofkoaa.CrcMath

def poly : Nat := 2197175160
def S (c : Nat) : Nat := if c % 2 = 1 then (c / 2) ^^^ poly else c / 2
def SN : Nat → Nat → Nat
  | 0, c => c
  | n + 1, c => SN n (S c)
def nt (c : Nat) : Nat := c ^^^ 4294967295
def next (s b : Nat) : Nat := nt (SN 8 (nt s ^^^ b))
def sumFrom (s : Nat) (l : List Nat) : Nat := l.foldl next s

theorem xlc (a b c : Nat) : a ^^^ (b ^^^ c) = b ^^^ (a ^^^ c) := by rw [← Nat.xor_assoc, Nat.xor_comm a b, Nat.xor_assoc]
theorem xzero {a b : Nat} (h : a ^^^ b = 0) : a = b := by
  have := congrArg (a ^^^ ·) h
  simp [← Nat.xor_assoc] at this
  exact this.symm
theorem xcan (a b : Nat) : a ^^^ (a ^^^ b) = b := by rw [← Nat.xor_assoc, Nat.xor_self, Nat.zero_xor]
theorem xor_mod2 (a b : Nat) : (a ^^^ b) % 2 = (a % 2 + b % 2) % 2 := by
  have h : (a ^^^ b) % 2 = a % 2 ^^^ b % 2 := Nat.xor_mod_two_pow (n := 1)
  rw [h]
  rcases Nat.mod_two_eq_zero_or_one a with ha | ha <;> rcases Nat.mod_two_eq_zero_or_one b with hb | hb <;> rw [ha, hb] <;> rfl
theorem xor_half (a b : Nat) : (a ^^^ b) / 2 = a / 2 ^^^ b / 2 := Nat.xor_div_two

theorem S_xor (a b : Nat) : S (a ^^^ b) = S a ^^^ S b := by
  unfold S
  have h1 := xor_mod2 a b
  rw [xor_half]
  rcases Nat.mod_two_eq_zero_or_one a with ha | ha <;> rcases Nat.mod_two_eq_zero_or_one b with hb | hb <;> rw [h1, ha, hb] <;> simp [Nat.xor_comm, xlc, xcan]
theorem SN_xor (n a b : Nat) : SN n (a ^^^ b) = SN n a ^^^ SN n b := by
  induction n generalizing a b with
  | zero => rfl
  | succ n ih => simp only [SN, S_xor, ih]
theorem S_dbl (a : Nat) : S (2 * a) = a := by unfold S; rw [if_neg (by omega)]; omega
theorem SN_shift (n a : Nat) : SN n (2 ^ n * a) = a := by
  induction n generalizing a with
  | zero => simp [SN]
  | succ n ih => rw [SN, show 2 ^ (n + 1) * a = 2 * (2 ^ n * a) from by rw [Nat.pow_succ, Nat.mul_comm (2 ^ n) 2, Nat.mul_assoc], S_dbl, ih]
theorem SN_add (m n a : Nat) : SN (m + n) a = SN n (SN m a) := by
  induction m generalizing a with
  | zero => simp [SN]
  | succ m ih => rw [show m + 1 + n = (m + n) + 1 from by omega, SN, SN, ih]
theorem S_lt {c : Nat} (h : c < 4294967296) : S c < 4294967296 := by
  unfold S poly; split
  · exact Nat.xor_lt_two_pow (n := 32) (by omega) (by omega)
  · omega
theorem SN_lt (n : Nat) {c : Nat} (h : c < 4294967296) : SN n c < 4294967296 := by
  induction n generalizing c with
  | zero => exact h
  | succ n ih => exact ih (S_lt h)
theorem S_zero {c : Nat} (h : c < 4294967296) (hz : S c = 0) : c = 0 := by
  unfold S at hz; split at hz
  · have := xzero hz; unfold poly at this; omega
  · omega
theorem SN_zero (n : Nat) {c : Nat} (h : c < 4294967296) (hz : SN n c = 0) : c = 0 := by
  induction n generalizing c with
  | zero => exact hz
  | succ n ih => exact S_zero h (ih (S_lt h) hz)
theorem SN_0 (n : Nat) : SN n 0 = 0 := by
  induction n with
  | zero => rfl
  | succ n ih => rw [SN]; exact ih
theorem xor_lt {a b : Nat} (ha : a < 4294967296) (hb : b < 4294967296) : a ^^^ b < 4294967296 := Nat.xor_lt_two_pow (n := 32) ha hb
theorem nt_lt {a : Nat} (ha : a < 4294967296) : nt a < 4294967296 := xor_lt ha (by decide)
theorem next_lt {s b : Nat} (hs : s < 4294967296) (hb : b < 256) : next s b < 4294967296 := nt_lt (SN_lt 8 (xor_lt (nt_lt hs) (by omega)))
theorem sumFrom_lt {s : Nat} (l : List Nat) (hs : s < 4294967296) (hl : ∀ b ∈ l, b < 256) : sumFrom s l < 4294967296 := by
  induction l generalizing s with
  | nil => exact hs
  | cons b l ih => exact ih (next_lt hs (hl b (by simp))) (fun x hx => hl x (by simp [hx]))
theorem sumFrom_append (s : Nat) (l m : List Nat) : sumFrom s (l ++ m) = sumFrom (sumFrom s l) m := by simp [sumFrom]
theorem sumFrom_snoc (s : Nat) (l : List Nat) (b : Nat) : sumFrom s (l ++ [b]) = next (sumFrom s l) b := by simp [sumFrom]

theorem xor_inj_left {a b c : Nat} (h : a ^^^ b = a ^^^ c) : b = c := by
  have := congrArg (a ^^^ ·) h
  simpa [← Nat.xor_assoc] using this
theorem xor_inj_right {a b c : Nat} (h : b ^^^ a = c ^^^ a) : b = c := by
  rw [Nat.xor_comm b, Nat.xor_comm c] at h; exact xor_inj_left h
theorem next_inj_byte {s a b : Nat} (ha : a < 256) (hb : b < 256) (h : next s a = next s b) : a = b := by
  have h1 := xor_inj_right h
  have h2 : SN 8 ((nt s ^^^ a) ^^^ (nt s ^^^ b)) = 0 := by rw [SN_xor, h1, Nat.xor_self]
  have h3 : (nt s ^^^ a) ^^^ (nt s ^^^ b) = a ^^^ b := by
    rw [Nat.xor_assoc, xlc a, ← Nat.xor_assoc, Nat.xor_self, Nat.zero_xor]
  rw [h3] at h2
  exact xzero (SN_zero 8 (xor_lt (by omega) (by omega)) h2)
theorem next_inj_sum {s t b : Nat} (hs : s < 4294967296) (ht : t < 4294967296) (h : next s b = next t b) : s = t := by
  have h1 := xor_inj_right h
  have h2 : SN 8 ((nt s ^^^ b) ^^^ (nt t ^^^ b)) = 0 := by rw [SN_xor, h1, Nat.xor_self]
  have h3 : (nt s ^^^ b) ^^^ (nt t ^^^ b) = s ^^^ t := by
    unfold nt
    simp [Nat.xor_comm, xlc]
  rw [h3] at h2
  exact xzero (SN_zero 8 (xor_lt hs ht) h2)

/-- bytes with a number laid over them, the lowest first. -/
def over : List Nat → Nat → List Nat
  | [], _ => []
  | b :: l, e => (b ^^^ e % 256) :: over l (e / 256)
theorem over_length (l : List Nat) (e : Nat) : (over l e).length = l.length := by
  induction l generalizing e with
  | nil => rfl
  | cons b l ih => simp [over, ih]
theorem next_xor (s d b e : Nat) : next (s ^^^ d) (b ^^^ e) = next s b ^^^ SN 8 (d ^^^ e) := by
  unfold next nt
  have : s ^^^ d ^^^ 4294967295 ^^^ (b ^^^ e) = (s ^^^ 4294967295 ^^^ b) ^^^ (d ^^^ e) := by simp [Nat.xor_assoc, Nat.xor_comm, xlc]
  rw [this, SN_xor]
  simp [Nat.xor_comm, xlc]
theorem split256 (e : Nat) : e = e % 256 ^^^ 2 ^ 8 * (e / 256) := by
  have h : e % 256 + 2 ^ 8 * (e / 256) = e := by have := Nat.mod_add_div e 256; omega
  have h2 : 2 ^ 8 * (e / 256) ||| e % 256 = 2 ^ 8 * (e / 256) + e % 256 := (Nat.two_pow_add_eq_or_of_lt (i := 8) (by omega) _).symm
  apply Nat.eq_of_testBit_eq
  intro i
  rw [Nat.testBit_xor, show (256 : Nat) = 2 ^ 8 from rfl, Nat.testBit_mod_two_pow, Nat.testBit_two_pow_mul, Nat.testBit_div_two_pow]
  by_cases hi : i < 8
  · simp [hi, show ¬ 8 ≤ i from by omega]
  · simp [hi, show 8 ≤ i from by omega]
theorem SN8_byte (d e : Nat) : SN 8 (d ^^^ e) = SN 8 (d ^^^ e % 256) ^^^ e / 256 := by
  conv => lhs; rw [split256 e]
  rw [← Nat.xor_assoc, SN_xor, SN_shift]
theorem sum_over (l : List Nat) (s d e : Nat) (he : e < 2 ^ (8 * l.length)) :
    sumFrom (s ^^^ d) (over l e) = sumFrom s l ^^^ SN (8 * l.length) (d ^^^ e) := by
  induction l generalizing s d e with
  | nil => simp at he; subst he; simp [over, sumFrom, SN]
  | cons b l ih =>
    have h1 : sumFrom (s ^^^ d) (over (b :: l) e) = sumFrom (next (s ^^^ d) (b ^^^ e % 256)) (over l (e / 256)) := rfl
    have h2 : sumFrom s (b :: l) = sumFrom (next s b) l := rfl
    rw [h1, h2, next_xor, ih _ _ _ (by
      have : 2 ^ (8 * (b :: l).length) = 256 * 2 ^ (8 * l.length) := by rw [List.length_cons, Nat.mul_add, Nat.pow_add, Nat.mul_comm]
      rw [this] at he; exact Nat.div_lt_of_lt_mul he)]
    rw [show 8 * (b :: l).length = 8 + 8 * l.length from by simp; omega, SN_add, SN8_byte d e]
/-- A change within 32 bits in a row changes the sum, just if there is one. -/
theorem burst (l : List Nat) (at' run : Nat) (hrun : run < 4294967296) (hfit : run * 2 ^ at' < 2 ^ (8 * l.length)) (hat : at' ≤ 8 * l.length) :
    (sumFrom 0 l = sumFrom 0 (over l (run * 2 ^ at'))) ↔ run = 0 := by
  have h := sum_over l 0 0 (run * 2 ^ at') hfit
  rw [Nat.zero_xor, Nat.zero_xor] at h
  have h8 : SN (8 * l.length) (run * 2 ^ at') = SN (8 * l.length - at') run := by
    rw [show 8 * l.length = at' + (8 * l.length - at') from by omega, SN_add, Nat.mul_comm run, SN_shift]
    congr 1; omega
  rw [h8] at h
  constructor
  · intro hh
    rw [← hh] at h
    have : SN (8 * l.length - at') run = 0 := by
      have := congrArg (sumFrom 0 l ^^^ ·) h
      simpa [← Nat.xor_assoc] using this.symm
    exact SN_zero _ hrun this
  · intro hz
    rw [h, hz, SN_0, Nat.xor_zero]
end Go.Proofs.Ythbaoljghofkoaa.CrcMath
