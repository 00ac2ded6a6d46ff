/- Numbers of chapter 1 as plain numbers: long ones, bytes, signs, turning. Conditions: none; no program in sight. -/
import Derived.KernelRfl
namespace Go.Proofs.Ythbaoljghofkoaa.NumMath

/-! long numbers -/
def dec : List Nat → Nat
  | [] => 0
  | c :: l => c % 128 + 128 * dec l
def longF : Nat → Nat → List Nat
  | 0, n => [n]
  | f + 1, n => if n < 128 then [n] else (n % 128 + 128) :: longF f (n / 128)
def longL (n : Nat) : List Nat := longF 10 n

theorem longF_dec (f n : Nat) (h : n < 128 ^ (f + 1)) : dec (longF f n) = n := by
  induction f generalizing n with
  | zero => simp only [longF, dec]; omega
  | succ f ih =>
    unfold longF
    split
    · simp only [dec]; omega
    · simp only [dec]
      rw [ih (n / 128) (by rw [Nat.pow_succ] at h; exact Nat.div_lt_of_lt_mul (by omega))]
      omega
theorem longF_ne (f n : Nat) : longF f n ≠ [] := by
  cases f <;> unfold longF
  · simp
  · split <;> simp
theorem longF_small (f n : Nat) (h : n < 128 ^ (f + 1)) : ∀ x ∈ longF f n, x < 256 := by
  induction f generalizing n with
  | zero => intro x hx; simp [longF] at hx; omega
  | succ f ih =>
    intro x hx
    unfold longF at hx
    split at hx
    · simp at hx; omega
    · rcases List.mem_cons.1 hx with rfl | hx
      · omega
      · exact ih (n / 128) (by rw [Nat.pow_succ] at h; exact Nat.div_lt_of_lt_mul (by omega)) x hx
/-- canonical: all but the last have the mark, the last has not, and isn't nought unless it stands alone -/
def Canon (pre : List Nat) (c : Nat) : Prop := (∀ x ∈ pre, 128 ≤ x ∧ x < 256) ∧ c < 128 ∧ (c = 0 → pre = [])
theorem longF_canon (f n : Nat) (h : n < 128 ^ (f + 1)) : ∃ pre c, longF f n = pre ++ [c] ∧ Canon pre c ∧ pre.length ≤ f := by
  induction f generalizing n with
  | zero => exact ⟨[], n, by simp [longF], ⟨by simp, by omega, by simp⟩, by simp⟩
  | succ f ih =>
    unfold longF
    split
    · exact ⟨[], n, by simp, ⟨by simp, by omega, by simp⟩, by simp⟩
    · obtain ⟨pre, c, he, ⟨h1, h2, h3⟩, hl⟩ := ih (n / 128) (by rw [Nat.pow_succ] at h; exact Nat.div_lt_of_lt_mul (by omega))
      refine ⟨(n % 128 + 128) :: pre, c, by rw [he]; rfl, ⟨?_, h2, ?_⟩, by simp; omega⟩
      · intro x hx
        rcases List.mem_cons.1 hx with rfl | hx
        · omega
        · exact h1 x hx
      · intro hc
        have := h3 hc
        subst this
        subst hc
        have hd := longF_dec f (n / 128) (by rw [Nat.pow_succ] at h; exact Nat.div_lt_of_lt_mul (by omega))
        rw [he] at hd
        simp [dec] at hd
        omega
theorem dec_append (a b : List Nat) : dec (a ++ b) = dec a + 128 ^ a.length * dec b := by
  induction a with
  | nil => simp [dec]
  | cons x a ih =>
    simp only [List.cons_append, dec, ih, List.length_cons, Nat.pow_succ]
    rw [Nat.mul_add, Nat.add_assoc, ← Nat.mul_assoc, Nat.mul_comm 128 (128 ^ a.length)]
theorem dec_lt (a : List Nat) : dec a < 128 ^ a.length := by
  induction a with
  | nil => simp [dec]
  | cons x a ih => simp only [dec, List.length_cons, Nat.pow_succ]; omega
theorem canon_long (f : Nat) (pre : List Nat) (c : Nat) (h : Canon pre c) (hl : pre.length ≤ f) : longF f (dec (pre ++ [c])) = pre ++ [c] := by
  induction pre generalizing f with
  | nil =>
    have hd : dec ([] ++ [c]) = c := by simp only [List.nil_append, dec]; have := h.2.1; omega
    rw [hd]
    cases f with
    | zero => rfl
    | succ f => unfold longF; rw [if_pos h.2.1]; rfl
  | cons x pre ih =>
    obtain ⟨h1, h2, h3⟩ := h
    have hx := h1 x (by simp)
    have hc : c ≠ 0 := fun e => by have := h3 e; cases this
    have hpos : 0 < dec (pre ++ [c]) := by
      rw [dec_append]
      have : dec [c] = c := by simp only [dec]; omega
      rw [this]
      have : 0 < 128 ^ pre.length := Nat.pow_pos (by omega)
      have : 0 < 128 ^ pre.length * c := Nat.mul_pos this (by omega)
      omega
    cases f with
    | zero => simp at hl
    | succ f =>
      have hi := ih f ⟨fun y hy => h1 y (by simp [hy]), h2, fun e => absurd e hc⟩ (by simp at hl; omega)
      simp only [List.cons_append, dec]
      unfold longF
      rw [if_neg (by omega)]
      have e1 : (x % 128 + 128 * dec (pre ++ [c])) % 128 + 128 = x := by omega
      have e2 : (x % 128 + 128 * dec (pre ++ [c])) / 128 = dec (pre ++ [c]) := by omega
      rw [e1, e2, hi]
theorem canon_unique {f n : Nat} (h : n < 128 ^ (f + 1)) {pre : List Nat} {c : Nat} (he : longF f n = pre ++ [c]) : Canon pre c ∧ dec (pre ++ [c]) = n := by
  obtain ⟨p, d, h1, h2, _⟩ := longF_canon f n h
  rw [h1] at he
  obtain ⟨rfl, h4⟩ := List.append_inj' he rfl
  have : d = c := by simpa using h4
  subst this
  exact ⟨h2, by rw [← h1]; exact longF_dec f n h⟩

def two64 : Nat := 18446744073709551616
theorem two64_lt : two64 < 128 ^ (10 + 1) := by decide
theorem long_fits {n : Nat} (h : n < two64) : n < 128 ^ (10 + 1) := Nat.lt_trans h two64_lt

/-- the program's way -/
def shortF : Nat → Nat → List Nat → Nat × Nat
  | _, _, [] => (0, 0)
  | i, n, c :: l =>
    if two64 ≤ c % 128 * 128 ^ i then (0, 0)
    else if c < 128 then (if c = 0 ∧ 0 < i then (0, 0) else (n + c % 128 * 128 ^ i, i + 1))
    else shortF (i + 1) (n + c % 128 * 128 ^ i) l
def shortL (b : List Nat) : Nat × Nat := shortF 0 0 b
/-- the document's way, over the whole list b -/
def refF (b : List Nat) : Nat → Nat → List Nat → Nat × Nat
  | _, _, [] => (0, 0)
  | i, n, c :: l =>
    if 10 ≤ i then (0, 0)
    else if c < 128 then (if longL ((n + c % 128 * 128 ^ i) % two64) = b.take (i + 1) then ((n + c % 128 * 128 ^ i) % two64, i + 1) else (0, 0))
    else refF b (i + 1) ((n + c % 128 * 128 ^ i) % two64) l

theorem pow_big {i : Nat} (h : 10 ≤ i) : two64 ≤ 128 ^ i := by
  have : 128 ^ 10 ≤ 128 ^ i := Nat.pow_le_pow_right (by omega) h
  have h2 : two64 ≤ 128 ^ 10 := by decide
  omega
theorem shortF_late (i n : Nat) (l : List Nat) (h : 10 ≤ i) : shortF i n l = (0, 0) := by
  induction l generalizing i n with
  | nil => rfl
  | cons c l ih =>
    unfold shortF
    have hp := pow_big h
    split
    · rfl
    · rename_i hlt
      have h0 : c % 128 = 0 := by
        rcases Nat.eq_zero_or_pos (c % 128) with e | e
        · exact e
        · have : 128 ^ i ≤ c % 128 * 128 ^ i := Nat.le_mul_of_pos_left _ e
          omega
      split
      · rw [if_pos ⟨by omega, by omega⟩]
      · exact ih (i + 1) _ (by omega)
theorem step_bound {pre : List Nat} {c : Nat} : dec pre + c % 128 * 128 ^ pre.length = dec (pre ++ [c]) := by
  rw [dec_append]
  simp only [dec, Nat.mul_zero, Nat.add_zero]
  rw [Nat.mul_comm]
theorem pow_le_nine {i : Nat} (h : i < 10) : 128 ^ i * 2 ≤ two64 := by
  have : 128 ^ i ≤ 128 ^ 9 := Nat.pow_le_pow_right (by omega) (by omega)
  have h2 : 128 ^ 9 * 2 ≤ two64 := by decide
  omega
/-- a term that fits: all of it fits -/
theorem sum_fits {pre : List Nat} {c : Nat} (hi : pre.length < 10) (h : c % 128 * 128 ^ pre.length < two64) : dec (pre ++ [c]) < two64 := by
  rw [← step_bound]
  have hd := dec_lt pre
  rcases Nat.lt_or_ge pre.length 9 with h9 | h9
  · have h1 : 128 ^ (pre.length + 1) * 2 ≤ two64 := pow_le_nine (by omega)
    have h2 : c % 128 * 128 ^ pre.length ≤ 127 * 128 ^ pre.length := Nat.mul_le_mul_right _ (by omega)
    rw [Nat.pow_succ] at h1
    omega
  · have h10 : pre.length = 9 := by omega
    rw [h10] at h hd ⊢
    have e1 : (128 : Nat) ^ 9 = 9223372036854775808 := by decide
    rw [e1] at h hd ⊢
    unfold two64 at h ⊢
    omega

theorem short_ref (b pre l : List Nat) (hb : b = pre ++ l) (hp : ∀ x ∈ pre, 128 ≤ x ∧ x < 256) (hi : pre.length ≤ 10) (hfit : dec pre < two64) (hs : ∀ x ∈ l, x < 256) :
    shortF pre.length (dec pre) l = refF b pre.length (dec pre) l := by
  induction l generalizing pre with
  | nil => rfl
  | cons c l ih =>
    rcases Nat.lt_or_ge pre.length 10 with h10 | h10
    · unfold shortF refF
      rw [if_neg (show ¬ 10 ≤ pre.length from by omega)]
      have htk : b.take (pre.length + 1) = pre ++ [c] := by
        rw [hb]
        simp [List.take_append]
        exact List.take_of_length_le (by omega)
      rw [htk, step_bound]
      by_cases hbig : two64 ≤ c % 128 * 128 ^ pre.length
      · rw [if_pos hbig]
        have hV : two64 ≤ dec (pre ++ [c]) := by rw [← step_bound]; exact Nat.le_trans hbig (Nat.le_add_left _ _)
        by_cases hc : c < 128
        · rw [if_pos hc]
          rw [if_neg]
          intro he
          have hm : dec (pre ++ [c]) % two64 < two64 := Nat.mod_lt _ (by decide)
          have := (canon_unique (long_fits hm) he).2
          omega
        · rw [if_neg hc]
          have h9 : pre.length = 9 := by
            rcases Nat.lt_or_ge pre.length 9 with h9 | h9
            · have h1 : 128 ^ (pre.length + 1) * 2 ≤ two64 := pow_le_nine (by omega)
              have h2 : c % 128 * 128 ^ pre.length ≤ 127 * 128 ^ pre.length := Nat.mul_le_mul_right _ (by omega)
              rw [Nat.pow_succ] at h1
              omega
            · omega
          cases l with
          | nil => rfl
          | cons d l => unfold refF; rw [if_pos (by omega)]
      · rw [if_neg hbig]
        have hV := sum_fits h10 (Nat.lt_of_not_le hbig)
        rw [Nat.mod_eq_of_lt hV]
        by_cases hc : c < 128
        · rw [if_pos hc, if_pos hc]
          by_cases h0 : c = 0 ∧ 0 < pre.length
          · rw [if_pos h0, if_neg]
            intro he
            obtain ⟨⟨_, _, h3⟩, _⟩ := canon_unique (long_fits hV) he
            have := h3 h0.1
            subst this
            simp at h0
          · rw [if_neg h0, if_pos]
            exact canon_long 10 pre c ⟨hp, hc, fun e => by
              cases pre with
              | nil => rfl
              | cons x p => exact absurd ⟨e, by simp⟩ h0⟩ (by omega)
        · rw [if_neg hc, if_neg hc]
          have := ih (pre ++ [c]) (by rw [hb]; simp) (by
            intro x hx
            rcases List.mem_append.1 hx with hx | hx
            · exact hp x hx
            · have : x = c := by simpa using hx
              subst this
              exact ⟨by omega, hs x (by simp)⟩) (by simp; omega) hV (fun x hx => hs x (by simp [hx]))
          simpa using this
    · rw [shortF_late _ _ _ h10]
      unfold refF
      rw [if_pos h10]
theorem shortL_ref (b : List Nat) (hs : ∀ x ∈ b, x < 256) : shortL b = refF b 0 0 b := short_ref b [] b rfl (by simp) (by simp) (by decide) hs

/-- what is read is written so -/
theorem short_sound (pre l : List Nat) (hp : ∀ x ∈ pre, 128 ≤ x ∧ x < 256) (hs : ∀ x ∈ l, x < 256) (x k : Nat) (h : shortF pre.length (dec pre) l = (x, k)) (hk : 0 < k) :
    k ≤ 10 ∧ k ≤ (pre ++ l).length ∧ longL x = (pre ++ l).take k ∧ x < two64 := by
  induction l generalizing pre with
  | nil => simp [shortF] at h; omega
  | cons c l ih =>
    rcases Nat.lt_or_ge pre.length 10 with h10 | h10
    · unfold shortF at h
      rw [step_bound] at h
      split at h
      · simp at h; omega
      · rename_i hbig
        have hV := sum_fits h10 (Nat.lt_of_not_le hbig)
        split at h
        · rename_i hc
          split at h
          · simp at h; omega
          · rename_i h0
            simp only [Prod.mk.injEq] at h
            obtain ⟨rfl, rfl⟩ := h
            refine ⟨by omega, by simp, ?_, hV⟩
            have htk : (pre ++ c :: l).take (pre.length + 1) = pre ++ [c] := by
              simp [List.take_append]
              exact List.take_of_length_le (by omega)
            rw [htk]
            exact canon_long 10 pre c ⟨hp, hc, fun e => by
              cases pre with
              | nil => rfl
              | cons x p => exact absurd ⟨e, by simp⟩ h0⟩ (by omega)
        · rename_i hc
          have := ih (pre ++ [c]) (by
            intro y hy
            rcases List.mem_append.1 hy with hy | hy
            · exact hp y hy
            · have : y = c := by simpa using hy
              subst this
              exact ⟨by omega, hs y (by simp)⟩) (fun y hy => hs y (by simp [hy])) (by simpa using h)
          simpa using this
    · rw [shortF_late _ _ _ h10] at h
      simp at h
      omega
/-- what is written is read, whatever stands behind -/
theorem short_back (pre rest more : List Nat) (c : Nat) (h : Canon (pre ++ rest) c) (hl : (pre ++ rest).length ≤ 9) (hfit : dec (pre ++ rest ++ [c]) < two64) :
    shortF pre.length (dec pre) (rest ++ c :: more) = (dec (pre ++ rest ++ [c]), (pre ++ rest).length + 1) := by
  induction rest generalizing pre with
  | nil =>
    simp only [List.append_nil, List.nil_append] at h hl hfit ⊢
    unfold shortF
    rw [step_bound, if_neg (by have h2 := step_bound (pre := pre) (c := c); omega), if_pos h.2.1, if_neg]
    rintro ⟨e, hlt⟩
    have := h.2.2 e
    subst this
    simp at hlt
  | cons d rest ih =>
    have hd := h.1 d (by simp)
    have e1 : pre ++ d :: rest = pre ++ [d] ++ rest := by simp
    simp only [List.cons_append]
    unfold shortF
    have hlow : dec pre + d % 128 * 128 ^ pre.length ≤ dec (pre ++ d :: rest ++ [c]) := by
      rw [step_bound, e1, List.append_assoc, dec_append (pre ++ [d])]
      omega
    rw [if_neg (by omega), if_neg (by omega), step_bound]
    have := ih (pre ++ [d]) (by rw [← e1]; exact h) (by rw [← e1]; exact hl) (by rw [← e1]; exact hfit)
    rw [← e1] at this
    simpa using this
theorem shortL_long (n : Nat) (h : n < two64) (more : List Nat) : shortL (longL n ++ more) = (n, (longL n).length) := by
  obtain ⟨pre, c, he, hc, hl⟩ := longF_canon 10 n (long_fits h)
  have hd := longF_dec 10 n (long_fits h)
  have h9 : pre.length ≤ 9 := by
    rcases Nat.lt_or_ge pre.length 10 with q | q
    · omega
    · exfalso
      rw [he, dec_append] at hd
      have hc0 : c ≠ 0 := fun e => by have := hc.2.2 e; subst this; simp at q
      have h1 : dec [c] = c := by simp only [dec]; have := hc.2.1; omega
      rw [h1] at hd
      have h2 := pow_big q
      have h3 : 128 ^ pre.length ≤ 128 ^ pre.length * c := Nat.le_mul_of_pos_right _ (by omega)
      omega
  have := short_back [] pre more c (by simpa using hc) (by simpa using h9) (by simp only [List.nil_append]; rw [← he, hd]; exact h)
  unfold longL shortL
  rw [he] at hd ⊢
  simp only [List.nil_append] at this
  rw [hd] at this
  simpa [dec] using this
theorem short_marks (i n : Nat) (l : List Nat) (h : ∀ x ∈ l, 128 ≤ x) : shortF i n l = (0, 0) := by
  induction l generalizing i n with
  | nil => rfl
  | cons c l ih =>
    unfold shortF
    have := h c (by simp)
    split
    · rfl
    · rw [if_neg (by omega)]
      exact ih _ _ (fun x hx => h x (by simp [hx]))
theorem shortL_cut (n : Nat) (h : n < two64) : shortL ((longL n).take ((longL n).length - 1)) = (0, 0) := by
  obtain ⟨pre, c, he, hc, _⟩ := longF_canon 10 n (long_fits h)
  unfold longL
  rw [he]
  have : (pre ++ [c]).take ((pre ++ [c]).length - 1) = pre := by simp
  rw [this]
  exact short_marks 0 0 pre fun x hx => (hc.1 x hx).1
end Go.Proofs.Ythbaoljghofkoaa.NumMath
namespace Go.Proofs.Ythbaoljghofkoaa.NumMath
/-! bytes of a number -/
def putF : Nat → Nat → List Nat
  | 0, _ => []
  | w + 1, n => n % 256 :: putF w (n / 256)
def getL : List Nat → Nat
  | [] => 0
  | b :: l => b + 256 * getL l
theorem putF_length (w n : Nat) : (putF w n).length = w := by
  induction w generalizing n with
  | zero => rfl
  | succ w ih => simp [putF, ih]
theorem putF_small (w n : Nat) : ∀ x ∈ putF w n, x < 256 := by
  induction w generalizing n with
  | zero => intro x hx; cases hx
  | succ w ih =>
    intro x hx
    rcases List.mem_cons.1 hx with rfl | hx
    · exact Nat.mod_lt _ (by omega)
    · exact ih _ x hx
theorem putF_snoc (w n : Nat) : putF (w + 1) n = putF w n ++ [n / 256 ^ w % 256] := by
  induction w generalizing n with
  | zero => simp [putF]
  | succ w ih =>
    have e : n / 256 / 256 ^ w = n / 256 ^ (w + 1) := by rw [Nat.div_div_eq_div_mul, Nat.pow_succ, Nat.mul_comm 256]
    rw [putF, ih (n / 256), e]
    rfl
theorem putF_take (p q n : Nat) (h : p ≤ q) : (putF q n).take p = putF p n := by
  induction p generalizing q n with
  | zero => simp [putF]
  | succ p ih =>
    cases q with
    | zero => omega
    | succ q => simp only [putF, List.take_succ_cons]; rw [ih q (n / 256) (by omega)]
theorem getL_put (w n : Nat) : getL (putF w n) = n % 256 ^ w := by
  induction w generalizing n with
  | zero => simp [putF, getL, Nat.mod_one]
  | succ w ih =>
    simp only [putF, getL, ih]
    rw [Nat.pow_succ, Nat.mul_comm (256 ^ w), Nat.mod_mul]
theorem getL_snoc (l : List Nat) (c : Nat) : getL (l ++ [c]) = getL l + c * 256 ^ l.length := by
  induction l with
  | nil => simp [getL]
  | cons b l ih =>
    simp only [List.cons_append, getL, ih, List.length_cons, Nat.pow_succ]
    rw [Nat.mul_add, Nat.add_assoc, Nat.mul_left_comm, Nat.mul_comm 256 (256 ^ l.length)]
theorem getL_lt (l : List Nat) (h : ∀ x ∈ l, x < 256) : getL l < 256 ^ l.length := by
  induction l with
  | nil => simp [getL]
  | cons b l ih =>
    have h1 := h b (by simp)
    have h2 := ih (fun x hx => h x (by simp [hx]))
    simp only [getL, List.length_cons, Nat.pow_succ]
    omega
theorem pow256 (k : Nat) : 256 ^ k = 2 ^ (8 * k) := by rw [Nat.pow_mul]

/-! signs -/
theorem half_pow (k : Nat) (hk : 1 ≤ k) : ((2 : Int) ^ k + 1) / 2 = 2 ^ (k - 1) := by
  obtain ⟨j, rfl⟩ : ∃ j, k = j + 1 := ⟨k - 1, by omega⟩
  rw [Int.pow_succ, Nat.add_sub_cancel]
  omega
/-- the sign: of k low bits -/
def bm (n : Int) (k : Nat) : Int := if n % 2 ^ k < 2 ^ (k - 1) then n % 2 ^ k else n % 2 ^ k - 2 ^ k
theorem bm_shift (n : Int) (k u : Nat) (hk : 1 ≤ k) : bm (n * 2 ^ u) (k + u) = bm n k * 2 ^ u := by
  have hp : (0 : Int) < 2 ^ u := Int.pow_pos (by omega)
  unfold bm
  rw [Int.pow_add, Int.mul_comm n, Int.mul_comm (2 ^ k), Int.mul_emod_mul_of_pos _ _ hp]
  rw [show k + u - 1 = u + (k - 1) from by omega, Int.pow_add]
  by_cases h : n % 2 ^ k < 2 ^ (k - 1)
  · rw [if_pos h, if_pos (Int.mul_lt_mul_of_pos_left h hp), Int.mul_comm]
  · rw [if_neg h, if_neg (fun h2 => h (Int.lt_of_mul_lt_mul_left h2 (Int.le_of_lt hp))), ← Int.mul_sub, Int.mul_comm]
theorem bm_mod (n : Int) (k j : Nat) (h : k ≤ j) : bm (n % 2 ^ j) k = bm n k := by
  unfold bm
  have : n % 2 ^ j % 2 ^ k = n % 2 ^ k := Int.emod_emod_of_dvd n (by
    obtain ⟨d, rfl⟩ : ∃ d, j = k + d := ⟨j - k, by omega⟩
    rw [Int.pow_add]
    exact Int.dvd_mul_right _ _)
  rw [this]
theorem two_half (k : Nat) (hk : 1 ≤ k) : (2 : Int) ^ k = 2 * 2 ^ (k - 1) := by
  obtain ⟨j, rfl⟩ : ∃ j, k = j + 1 := ⟨k - 1, by omega⟩
  rw [Int.pow_succ, Nat.add_sub_cancel]; omega
theorem bm_bounds (n : Int) (k : Nat) (hk : 1 ≤ k) : -2 ^ (k - 1) ≤ bm n k ∧ bm n k < 2 ^ (k - 1) := by
  have hp : (0 : Int) < 2 ^ k := Int.pow_pos (by omega)
  have h2 := two_half k hk
  have h0 := Int.emod_nonneg n (b := 2 ^ k) (by omega)
  have h1 := Int.emod_lt_of_pos n hp
  unfold bm
  split <;> omega
theorem bm_id (x : Int) (k : Nat) (hk : 1 ≤ k) (h1 : -2 ^ (k - 1) ≤ x) (h2 : x < 2 ^ (k - 1)) : bm x k = x := by
  have hp : (0 : Int) < 2 ^ k := Int.pow_pos (by omega)
  have h3 := two_half k hk
  unfold bm
  by_cases hx : 0 ≤ x
  · rw [Int.emod_eq_of_lt hx (by omega), if_pos h2]
  · have : x % 2 ^ k = x + 2 ^ k := by
      rw [← Int.add_emod_right, Int.emod_eq_of_lt (by omega) (by omega)]
    rw [this, if_neg (by omega)]
    omega
/-- the number that is laid: as an unsigned one and back, in as many bits or more -/
theorem bm_again (n : Int) (k j : Nat) (hk : 1 ≤ k) (hj : k ≤ j) (hj2 : j ≤ 64) : bm (bm n k % 2 ^ 64) j = bm n k := by
  rw [bm_mod _ _ _ hj2]
  have hb := bm_bounds n k hk
  have : (2 : Int) ^ (k - 1) ≤ 2 ^ (j - 1) := by
    obtain ⟨d, hd⟩ : ∃ d, j - 1 = (k - 1) + d := ⟨j - k, by omega⟩
    rw [hd, Int.pow_add]
    have h1 : (0 : Int) < 2 ^ d := Int.pow_pos (by omega)
    have h2 : (0 : Int) < 2 ^ (k - 1) := Int.pow_pos (by omega)
    calc (2 : Int) ^ (k - 1) = 2 ^ (k - 1) * 1 := by omega
      _ ≤ 2 ^ (k - 1) * 2 ^ d := Int.mul_le_mul_of_nonneg_left (by omega) (Int.le_of_lt h2)
  exact bm_id _ _ (by omega) (by omega) (by omega)

/-! powers modulo 2^64 -/
theorem pow_mod_big {n : Nat} (h : 64 ≤ n) : 2 ^ n % 18446744073709551616 = 0 := by
  obtain ⟨d, rfl⟩ : ∃ d, n = 64 + d := ⟨n - 64, by omega⟩
  rw [Nat.pow_add, show (2 : Nat) ^ 64 = 18446744073709551616 from by decide, Nat.mul_mod_right]
theorem pow_mod_small {n : Nat} (h : n < 64) : 2 ^ n % 18446744073709551616 = 2 ^ n := by
  have : 2 ^ n < 2 ^ 64 := Nat.pow_lt_pow_right (by omega) h
  exact Nat.mod_eq_of_lt (by simpa using this)
theorem pow_dbl (k : Nat) : (2 ^ k % 18446744073709551616 + 2 ^ k % 18446744073709551616) % 18446744073709551616 = 2 ^ (k + 1) % 18446744073709551616 := by
  rw [Nat.pow_succ]; omega
theorem shl_min (n k : Nat) : n * 2 ^ min k 64 % 18446744073709551616 = n * (2 ^ k % 18446744073709551616) % 18446744073709551616 := by
  rcases Nat.lt_or_ge k 64 with h | h
  · rw [Nat.min_eq_left (by omega), pow_mod_small h]
  · rw [Nat.min_eq_right h, pow_mod_big h]
    omega
theorem shr_min (n k : Nat) (h : n < 18446744073709551616) : n / 2 ^ min k 64 = n / 2 ^ k := by
  rcases Nat.lt_or_ge k 64 with h1 | h1
  · rw [Nat.min_eq_left (by omega)]
  · rw [Nat.min_eq_right h1, Nat.div_eq_of_lt (by simpa using h)]
    have : 2 ^ 64 ≤ 2 ^ k := Nat.pow_le_pow_right (by omega) h1
    rw [Nat.div_eq_of_lt (by omega)]

/-! turning -/
def rot (n s : Nat) : Nat := n % 2 ^ (64 - s) * 2 ^ s + n / 2 ^ (64 - s)
theorem rot_lt (n s : Nat) (h : n < 18446744073709551616) (hs : s < 64) : rot n s < 18446744073709551616 := by
  have hp : 2 ^ (64 - s) * 2 ^ s = 18446744073709551616 := by rw [← Nat.pow_add, show 64 - s + s = 64 from by omega]
  have h1 : n % 2 ^ (64 - s) < 2 ^ (64 - s) := Nat.mod_lt _ (Nat.two_pow_pos _)
  have h2 : n / 2 ^ (64 - s) < 2 ^ s := Nat.div_lt_of_lt_mul (by omega)
  have h3 : (n % 2 ^ (64 - s) + 1) * 2 ^ s ≤ 2 ^ (64 - s) * 2 ^ s := Nat.mul_le_mul_right _ h1
  unfold rot
  rw [Nat.add_mul] at h3
  omega
theorem rot_back (n s : Nat) (h : n < 18446744073709551616) (hs : s ≤ 64) : rot (rot n s) (64 - s) = n := by
  have hp : 2 ^ s * 2 ^ (64 - s) = 18446744073709551616 := by rw [← Nat.pow_add, show s + (64 - s) = 64 from by omega]
  have h2 : n / 2 ^ (64 - s) < 2 ^ s := Nat.div_lt_of_lt_mul (by rw [Nat.mul_comm]; omega)
  have e : 64 - (64 - s) = s := by omega
  unfold rot
  rw [e]
  have e1 : (n % 2 ^ (64 - s) * 2 ^ s + n / 2 ^ (64 - s)) % 2 ^ s = n / 2 ^ (64 - s) := by
    rw [Nat.mul_add_mod_self_right, Nat.mod_eq_of_lt h2]
  have e2 : (n % 2 ^ (64 - s) * 2 ^ s + n / 2 ^ (64 - s)) / 2 ^ s = n % 2 ^ (64 - s) := by
    rw [Nat.mul_comm, Nat.mul_add_div (Nat.two_pow_pos s), Nat.div_eq_of_lt h2, Nat.add_zero]
  rw [e1, e2, Nat.mul_comm]
  have := Nat.div_add_mod n (2 ^ (64 - s))
  omega
theorem rot_zero (n : Nat) (h : n < 18446744073709551616) : rot n 0 = n := by
  unfold rot
  simp
  omega
theorem rot_back0 (n s : Nat) (h : n < 18446744073709551616) (hs : s < 64) : rot (rot n s) ((64 - s) % 64) = n := by
  rcases Nat.eq_zero_or_pos s with rfl | hp
  · simp [rot_zero n h]
  · rw [Nat.mod_eq_of_lt (by omega)]
    exact rot_back n s h (by omega)
theorem div_pow_bit (n i : Nat) : n % 2 ^ (i + 1) = n % 2 ^ i + 2 ^ i * (n / 2 ^ i % 2) := by rw [Nat.pow_succ, Nat.mod_mul]
/-- a bit more -/
theorem rot_bit (n i s : Nat) (hi : i < 64) (hs : s < 64) : rot (n % 2 ^ (i + 1)) s = rot (n % 2 ^ i) s + n / 2 ^ i % 2 * 2 ^ ((i + s) % 64) := by
  have hx : n % 2 ^ i < 2 ^ i := Nat.mod_lt _ (Nat.two_pow_pos i)
  rw [div_pow_bit]
  rcases Nat.mod_two_eq_zero_or_one (n / 2 ^ i) with hb | hb
  · rw [hb]; simp
  · rw [hb, Nat.mul_one, Nat.one_mul]
    generalize n % 2 ^ i = x at hx
    unfold rot
    rcases Nat.lt_or_ge i (64 - s) with h | h
    · have hlt : x + 2 ^ i < 2 ^ (64 - s) := by
        have : 2 ^ (i + 1) ≤ 2 ^ (64 - s) := Nat.pow_le_pow_right (by omega) (by omega)
        rw [Nat.pow_succ] at this
        omega
      rw [Nat.mod_eq_of_lt hlt, Nat.mod_eq_of_lt (a := x) (by omega), Nat.div_eq_of_lt hlt, Nat.div_eq_of_lt (a := x) (by omega), Nat.mod_eq_of_lt (a := i + s) (by omega), Nat.add_mul, Nat.pow_add]
      omega
    · have hd : 2 ^ i = 2 ^ (64 - s) * 2 ^ (i - (64 - s)) := by rw [← Nat.pow_add]; congr 1; omega
      have e : (i + s) % 64 = i - (64 - s) := by omega
      rw [e, hd, Nat.add_mul_mod_self_left, Nat.add_mul_div_left _ _ (Nat.two_pow_pos _)]
      omega

/-! halving, with a sign -/
theorem half_half (v : Int) (k : Nat) : v / 2 ^ k / 2 = v / 2 ^ (k + 1) := by
  rw [Int.pow_succ, ← Int.ediv_ediv_of_nonneg (Int.le_of_lt (Int.pow_pos (by omega)))]
theorem down_half (v : Int) : -((-(v + 1)) / 2 + 1) = v / 2 := by omega
theorem stays_zero (k : Nat) : (0 : Int) / 2 ^ k = 0 := Int.zero_ediv _
theorem stays_minus (k : Nat) : (-1 : Int) / 2 ^ k = -1 := Int.ediv_eq_neg_one_of_neg_of_le (by omega) (by have : (0 : Int) < 2 ^ k := Int.pow_pos (by omega); omega)
end Go.Proofs.Ythbaoljghofkoaa.NumMath
