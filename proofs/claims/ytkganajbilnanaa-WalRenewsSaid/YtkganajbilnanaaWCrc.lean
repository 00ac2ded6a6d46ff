/- The check sum of chapter 2 as plain numbers: it is linear over exclusive or, told apart by byte and by sum, and by any change within 32 bits in a row. Conditions: none; no program in sight. -/
import Derived.KernelRfl
import Derived.Test.YtkganajbilnanaaRows
import Derived.Test.YtkganajbilnanaaWBase
import Derived.WalkKit
import Derived.ProofKit
import Derived.OpenShut
import Derived.Below
import Derived.Lib.Hide
import Derived.WalkSpells
import Derived.WalkLawsBesides
import Derived.Laws.BitsAllLaws
import Derived.Outline
import Derived.Handy
namespace Go.Proofs.Ytkganajbilnanaa.CrcMath

def poly : Nat := 2197175160
def S (c : Nat) : Nat := if c % 2 = 1 then (c / 2) ^^^ poly else c / 2
def SN : Nat → Nat → Nat
  | 0, c => c
  | n + 1, c => SN n (S c)
def nt (c : Nat) : Nat := c ^^^ 4294967295
def next (s b : Nat) : Nat := nt (SN 8 (nt s ^^^ b))
def sumFrom (s : Nat) (l : List Nat) : Nat := l.foldl next s

theorem xlc (a b c : Nat) : a ^^^ (b ^^^ c) = b ^^^ (a ^^^ c) := by rw [← Nat.xor_assoc, Nat.xor_comm a b, Nat.xor_assoc]
theorem xzero {a b : Nat} (h : a ^^^ b = 0) : a = b := by
  have := congrArg (a ^^^ ·) h
  simp [← Nat.xor_assoc] at this
  exact this.symm
theorem xcan (a b : Nat) : a ^^^ (a ^^^ b) = b := by rw [← Nat.xor_assoc, Nat.xor_self, Nat.zero_xor]
theorem xor_mod2 (a b : Nat) : (a ^^^ b) % 2 = (a % 2 + b % 2) % 2 := by
  have h : (a ^^^ b) % 2 = a % 2 ^^^ b % 2 := Nat.xor_mod_two_pow (n := 1)
  rw [h]
  rcases Nat.mod_two_eq_zero_or_one a with ha | ha <;> rcases Nat.mod_two_eq_zero_or_one b with hb | hb <;> rw [ha, hb] <;> rfl
theorem xor_half (a b : Nat) : (a ^^^ b) / 2 = a / 2 ^^^ b / 2 := Nat.xor_div_two

theorem S_xor (a b : Nat) : S (a ^^^ b) = S a ^^^ S b := by
  unfold S
  have h1 := xor_mod2 a b
  rw [xor_half]
  rcases Nat.mod_two_eq_zero_or_one a with ha | ha <;> rcases Nat.mod_two_eq_zero_or_one b with hb | hb <;> rw [h1, ha, hb] <;> simp [Nat.xor_comm, xlc, xcan]
theorem SN_xor (n a b : Nat) : SN n (a ^^^ b) = SN n a ^^^ SN n b := by
  induction n generalizing a b with
  | zero => rfl
  | succ n ih => simp only [SN, S_xor, ih]
theorem S_dbl (a : Nat) : S (2 * a) = a := by unfold S; rw [if_neg (by omega)]; omega
theorem SN_shift (n a : Nat) : SN n (2 ^ n * a) = a := by
  induction n generalizing a with
  | zero => simp [SN]
  | succ n ih => rw [SN, show 2 ^ (n + 1) * a = 2 * (2 ^ n * a) from by rw [Nat.pow_succ, Nat.mul_comm (2 ^ n) 2, Nat.mul_assoc], S_dbl, ih]
theorem SN_add (m n a : Nat) : SN (m + n) a = SN n (SN m a) := by
  induction m generalizing a with
  | zero => simp [SN]
  | succ m ih => rw [show m + 1 + n = (m + n) + 1 from by omega, SN, SN, ih]
theorem S_lt {c : Nat} (h : c < 4294967296) : S c < 4294967296 := by
  unfold S poly; split
  · exact Nat.xor_lt_two_pow (n := 32) (by omega) (by omega)
  · omega
theorem SN_lt (n : Nat) {c : Nat} (h : c < 4294967296) : SN n c < 4294967296 := by
  induction n generalizing c with
  | zero => exact h
  | succ n ih => exact ih (S_lt h)
theorem S_zero {c : Nat} (h : c < 4294967296) (hz : S c = 0) : c = 0 := by
  unfold S at hz; split at hz
  · have := xzero hz; unfold poly at this; omega
  · omega
theorem SN_zero (n : Nat) {c : Nat} (h : c < 4294967296) (hz : SN n c = 0) : c = 0 := by
  induction n generalizing c with
  | zero => exact hz
  | succ n ih => exact S_zero h (ih (S_lt h) hz)
theorem SN_0 (n : Nat) : SN n 0 = 0 := by
  induction n with
  | zero => rfl
  | succ n ih => rw [SN]; exact ih
theorem xor_lt {a b : Nat} (ha : a < 4294967296) (hb : b < 4294967296) : a ^^^ b < 4294967296 := Nat.xor_lt_two_pow (n := 32) ha hb
theorem nt_lt {a : Nat} (ha : a < 4294967296) : nt a < 4294967296 := xor_lt ha (by decide)
theorem next_lt {s b : Nat} (hs : s < 4294967296) (hb : b < 256) : next s b < 4294967296 := nt_lt (SN_lt 8 (xor_lt (nt_lt hs) (by omega)))
theorem sumFrom_lt {s : Nat} (l : List Nat) (hs : s < 4294967296) (hl : ∀ b ∈ l, b < 256) : sumFrom s l < 4294967296 := by
  induction l generalizing s with
  | nil => exact hs
  | cons b l ih => exact ih (next_lt hs (hl b (by simp))) (fun x hx => hl x (by simp [hx]))
theorem sumFrom_append (s : Nat) (l m : List Nat) : sumFrom s (l ++ m) = sumFrom (sumFrom s l) m := by simp [sumFrom]
theorem sumFrom_snoc (s : Nat) (l : List Nat) (b : Nat) : sumFrom s (l ++ [b]) = next (sumFrom s l) b := by simp [sumFrom]

theorem xor_inj_left {a b c : Nat} (h : a ^^^ b = a ^^^ c) : b = c := by
  have := congrArg (a ^^^ ·) h
  simpa [← Nat.xor_assoc] using this
theorem xor_inj_right {a b c : Nat} (h : b ^^^ a = c ^^^ a) : b = c := by
  rw [Nat.xor_comm b, Nat.xor_comm c] at h; exact xor_inj_left h
theorem next_inj_byte {s a b : Nat} (ha : a < 256) (hb : b < 256) (h : next s a = next s b) : a = b := by
  have h1 := xor_inj_right h
  have h2 : SN 8 ((nt s ^^^ a) ^^^ (nt s ^^^ b)) = 0 := by rw [SN_xor, h1, Nat.xor_self]
  have h3 : (nt s ^^^ a) ^^^ (nt s ^^^ b) = a ^^^ b := by
    rw [Nat.xor_assoc, xlc a, ← Nat.xor_assoc, Nat.xor_self, Nat.zero_xor]
  rw [h3] at h2
  exact xzero (SN_zero 8 (xor_lt (by omega) (by omega)) h2)
theorem next_inj_sum {s t b : Nat} (hs : s < 4294967296) (ht : t < 4294967296) (h : next s b = next t b) : s = t := by
  have h1 := xor_inj_right h
  have h2 : SN 8 ((nt s ^^^ b) ^^^ (nt t ^^^ b)) = 0 := by rw [SN_xor, h1, Nat.xor_self]
  have h3 : (nt s ^^^ b) ^^^ (nt t ^^^ b) = s ^^^ t := by
    unfold nt
    simp [Nat.xor_comm, xlc]
  rw [h3] at h2
  exact xzero (SN_zero 8 (xor_lt hs ht) h2)

/-- bytes with a number laid over them, the lowest first. -/
def over : List Nat → Nat → List Nat
  | [], _ => []
  | b :: l, e => (b ^^^ e % 256) :: over l (e / 256)
theorem over_length (l : List Nat) (e : Nat) : (over l e).length = l.length := by
  induction l generalizing e with
  | nil => rfl
  | cons b l ih => simp [over, ih]
theorem next_xor (s d b e : Nat) : next (s ^^^ d) (b ^^^ e) = next s b ^^^ SN 8 (d ^^^ e) := by
  unfold next nt
  have : s ^^^ d ^^^ 4294967295 ^^^ (b ^^^ e) = (s ^^^ 4294967295 ^^^ b) ^^^ (d ^^^ e) := by simp [Nat.xor_assoc, Nat.xor_comm, xlc]
  rw [this, SN_xor]
  simp [Nat.xor_comm, xlc]
theorem split256 (e : Nat) : e = e % 256 ^^^ 2 ^ 8 * (e / 256) := by
  have h : e % 256 + 2 ^ 8 * (e / 256) = e := by have := Nat.mod_add_div e 256; omega
  have h2 : 2 ^ 8 * (e / 256) ||| e % 256 = 2 ^ 8 * (e / 256) + e % 256 := (Nat.two_pow_add_eq_or_of_lt (i := 8) (by omega) _).symm
  apply Nat.eq_of_testBit_eq
  intro i
  rw [Nat.testBit_xor, show (256 : Nat) = 2 ^ 8 from rfl, Nat.testBit_mod_two_pow, Nat.testBit_two_pow_mul, Nat.testBit_div_two_pow]
  by_cases hi : i < 8
  · simp [hi, show ¬ 8 ≤ i from by omega]
  · simp [hi, show 8 ≤ i from by omega]
theorem SN8_byte (d e : Nat) : SN 8 (d ^^^ e) = SN 8 (d ^^^ e % 256) ^^^ e / 256 := by
  conv => lhs; rw [split256 e]
  rw [← Nat.xor_assoc, SN_xor, SN_shift]
theorem sum_over (l : List Nat) (s d e : Nat) (he : e < 2 ^ (8 * l.length)) :
    sumFrom (s ^^^ d) (over l e) = sumFrom s l ^^^ SN (8 * l.length) (d ^^^ e) := by
  induction l generalizing s d e with
  | nil => simp at he; subst he; simp [over, sumFrom, SN]
  | cons b l ih =>
    have h1 : sumFrom (s ^^^ d) (over (b :: l) e) = sumFrom (next (s ^^^ d) (b ^^^ e % 256)) (over l (e / 256)) := rfl
    have h2 : sumFrom s (b :: l) = sumFrom (next s b) l := rfl
    rw [h1, h2, next_xor, ih _ _ _ (by
      have : 2 ^ (8 * (b :: l).length) = 256 * 2 ^ (8 * l.length) := by rw [List.length_cons, Nat.mul_add, Nat.pow_add, Nat.mul_comm]
      rw [this] at he; exact Nat.div_lt_of_lt_mul he)]
    rw [show 8 * (b :: l).length = 8 + 8 * l.length from by simp; omega, SN_add, SN8_byte d e]
/-- A change within 32 bits in a row changes the sum, just if there is one. -/
theorem burst (l : List Nat) (at' run : Nat) (hrun : run < 4294967296) (hfit : run * 2 ^ at' < 2 ^ (8 * l.length)) (hat : at' ≤ 8 * l.length) :
    (sumFrom 0 l = sumFrom 0 (over l (run * 2 ^ at'))) ↔ run = 0 := by
  have h := sum_over l 0 0 (run * 2 ^ at') hfit
  rw [Nat.zero_xor, Nat.zero_xor] at h
  have h8 : SN (8 * l.length) (run * 2 ^ at') = SN (8 * l.length - at') run := by
    rw [show 8 * l.length = at' + (8 * l.length - at') from by omega, SN_add, Nat.mul_comm run, SN_shift]
    congr 1; omega
  rw [h8] at h
  constructor
  · intro hh
    rw [← hh] at h
    have : SN (8 * l.length - at') run = 0 := by
      have := congrArg (sumFrom 0 l ^^^ ·) h
      simpa [← Nat.xor_assoc] using this.symm
    exact SN_zero _ hrun this
  · intro hz
    rw [h, hz, SN_0, Nat.xor_zero]
end Go.Proofs.Ytkganajbilnanaa.CrcMath


/- The contracts of the check sum's functions. Conditions: bytes and sums fit their kinds. -/
namespace Go.Proofs.Ytkganajbilnanaa
open Go.ChangeShapes Go.WideShapes Go.ChangeAt Go.RowKit
open CrcMath

theorem ofInt32 (a : Nat) (ha : a < 4294967296) : (BitVec.ofInt 32 (a : Int)).toNat = a := ofInt_u32 a ha
theorem mask32 (d : Nat) : bits .and .u32 (2197175160 : Int) (-(((d % 2 : Nat)) : Int) % 4294967296) = ((if d % 2 = 1 then poly else 0 : Nat) : Int) := by
  rcases Nat.mod_two_eq_zero_or_one d with h | h <;> rw [h] <;> rfl
theorem half_step (d : Nat) (hd : d < 4294967296) : bits .xor .u32 ((d : Int) / 2) (bits .and .u32 (2197175160 : Int) (-(bits .and .u32 (d : Int) 1) % 4294967296)) = ((S d : Nat) : Int) := by
  have h1 : bits .and .u32 (d : Int) 1 = ((d % 2 : Nat) : Int) := by
    have := u32_and_nat d 1 hd (by omega)
    rw [nat_mask1] at this
    exact this
  have h2 : ((d : Int) / 2) = ((d / 2 : Nat) : Int) := by omega
  rw [h1, mask32, h2, u32_xor_nat _ _ (by omega) (by split <;> simp [poly])]
  congr 1
  unfold S
  split <;> simp_all

theorem half_any (c : Nat) (w : World) (hc : c < 4294967296) :
    Calls Try.prog 86 #[.int .u32 (c : Int)] w fun e w' => e = .returned (.int .u32 (SN 4 c : Nat)) ∧ w = w' := by
  go_enter Try.func86, Try.ntmps86
  go_wp2
  go_loop [0, 3] (fun x i => ∃ (d k : Nat), k ≤ 4 ∧ i = .int .i64 k ∧ x = .int .u32 d ∧ d < 4294967296 ∧ Hid (SN (4 - k) d = SN 4 c)) (fun _ i => 4 - (intOf i).toNat)
  case atStart => exact ⟨c, 0, by omega, rfl, rfl, hc, rfl⟩
  case round =>
    obtain ⟨d, k, hk, rfl, rfl, hd, H⟩ := hrel
    go_wp2
    · have hlt : (k : Int) < 4 := by assumption
      go_round
      case rel =>
        refine ⟨S d, k + 1, by omega, by go_num, by rw [half_step d hd], S_lt hd, ?_⟩
        have h := H.out
        rw [show 4 - k = (4 - (k + 1)) + 1 from by omega] at h
        exact h
      case measure => simp [intOf]; omega
    · have hge : (4 : Int) ≤ k := by assumption
      have h := H.out
      rw [show 4 - k = 0 from by omega] at h
      go_ret
      exact ⟨by rw [← h]; rfl, rfl⟩

theorem not32 (s : Nat) (hs : s < 4294967296) : bits .xor .u32 (IntKind.u32.max) (s : Int) = ((nt s : Nat) : Int) := by
  have := u32_xor_nat 4294967295 s (by omega) hs
  rw [Nat.xor_comm] at this
  exact this
theorem next_any (s b : Nat) (w : World) (hs : s < 4294967296) (hb : b < 256) :
    Calls Try.prog 75 #[.int .u32 (s : Int), .int .u8 (b : Int)] w fun e w' => e = .returned (.int .u32 (next s b : Nat)) ∧ w = w' := by
  have h1 : nt s ^^^ b < 4294967296 := xor_lt (nt_lt hs) (by omega)
  have h2 : SN 4 (nt s ^^^ b) < 4294967296 := SN_lt 4 h1
  have h3 : SN 4 (SN 4 (nt s ^^^ b)) < 4294967296 := SN_lt 4 h2
  go_enter Try.func75, Try.ntmps75
  go_wp2_with fail
  rw [not32 s hs, u32_xor_nat _ _ (nt_lt hs) (by omega)]
  refine (half_any _ _ h1).mono ?_
  rintro e w' ⟨rfl, rfl⟩
  go_wp2_with fail
  refine (half_any _ _ h2).mono ?_
  rintro e w' ⟨rfl, rfl⟩
  go_wp2_with fail
  go_ret
  exact ⟨by rw [not32 _ h3]; rfl, rfl⟩

theorem not_step (d : Nat) : (if d % 2 = 1 then (d / 2) ^^^ poly else d / 2) = S d := rfl
/-- A slice of bytes as a value. -/
def sliceV (x : Option Addr × Nat × List Nat) : Value := .slice x.1 x.2.2.length x.2.1
def allOf (ls : List (Option Addr × Nat × List Nat)) : List Nat := ls.flatMap (·.2.2)

theorem take_snoc {α : Type} (l : List α) (k : Nat) (h : k < l.length) : l.take (k + 1) = l.take k ++ [l[k]] := by
  rw [List.take_succ_eq_append_getElem h]
theorem sum_snoc (l : List Nat) (s k : Nat) (h : k < l.length) : sumFrom s (l.take (k + 1)) = next (sumFrom s (l.take k)) l[k] := by
  rw [take_snoc l k h, sumFrom_snoc]
theorem all_snoc (ls : List (Option Addr × Nat × List Nat)) (k : Nat) (h : k < ls.length) : sumFrom 0 (allOf (ls.take (k + 1))) = sumFrom (sumFrom 0 (allOf (ls.take k))) ls[k].2.2 := by
  unfold allOf
  rw [take_snoc ls k h, List.flatMap_append, sumFrom_append]
  simp
theorem sum_small {s : Nat} (l : List Nat) (k : Nat) (hs : s < 4294967296) (hl : Small l) : sumFrom s (l.take k) < 4294967296 :=
  sumFrom_lt _ hs fun b hb => hl b (List.mem_of_mem_take hb)

theorem sum_any (A : Option Addr) (c : Nat) (ls : List (Option Addr × Nat × List Nat)) (B : Nat) (w : World) (h : At w B A (ls.map sliceV)) (hls : ∀ x ∈ ls, Bytes w B x.1 x.2.2 ∧ x.2.2.length ≤ 100000) (hl : ls.length ≤ 100000) :
    Calls Try.prog 55 #[.slice A ls.length c] w fun e w' => e = .returned (.int .u32 (sumFrom 0 (allOf ls) : Nat)) ∧ w = w' := by
  go_enter Try.func55, Try.ntmps55
  go_wp2
  go_loop [3, 10] (fun x i => ∃ k : Nat, k ≤ ls.length ∧ i = .int .i64 k ∧ x = .int .u32 (sumFrom 0 (allOf (ls.take k)) : Nat)) (fun _ i => ls.length - (intOf i).toNat)
  case atStart => exact ⟨0, by omega, rfl, rfl⟩
  case round =>
    obtain ⟨k, hk, rfl, rfl⟩ := hrel
    have hs : sumFrom 0 (allOf (ls.take k)) < 4294967296 := sumFrom_lt _ (by omega) fun b hb => by
      obtain ⟨x, hx, hbx⟩ := List.mem_flatMap.1 hb
      exact (hls x (List.mem_of_mem_take hx)).1.2 b hbx
    rcases Nat.lt_or_ge k ls.length with hlt | hge
    · obtain ⟨b, o, rfl, hb, hc⟩ := h k (by simpa using hlt)
      have HS := Lib.hid (all_snoc ls k hlt)
      obtain ⟨hx, hxl⟩ := hls ls[k] (List.getElem_mem hlt)
      obtain ⟨s, hse⟩ : ∃ s, s = sumFrom 0 (allOf (ls.take k)) := ⟨_, rfl⟩
      rw [← hse] at hs HS ⊢
      rcases hxe : ls[k] with ⟨Ai, ci, li⟩
      simp only [List.getElem_map, sliceV, hxe] at hc hx hxl HS
      clear hxe hse
      go_wp2
      go_loop [3, 16] (fun x i => ∃ j : Nat, j ≤ li.length ∧ i = .int .i64 j ∧ x = .int .u32 (sumFrom s (li.take j) : Nat)) (fun _ i => li.length - (intOf i).toNat)
      case atStart => exact ⟨0, by omega, rfl, rfl⟩
      case round =>
        obtain ⟨j, hj, rfl, rfl⟩ := hrel
        have hs2 := sum_small li j hs hx.2
        rcases Nat.lt_or_ge j li.length with hlt2 | hge2
        · obtain ⟨b2, o2, rfl, hb2, hc2, hx2⟩ := hx.at_ hlt2
          have HS2 := Lib.hid (sum_snoc li s j hlt2)
          go_wp2_with (go_at_call 75; refine (next_any _ _ _ (by assumption) (by assumption)).mono ?_; rintro e w' ⟨rfl, rfl⟩)
          go_round
          case rel => exact ⟨j + 1, by omega, by go_num, by rw [HS2.out]⟩
          case measure => simp [intOf]; omega
        · have he : sumFrom s (li.take j) = sumFrom s li := by rw [List.take_of_length_le (by omega)]
          rw [he] at hs2 ⊢
          clear he
          go_wp2
          go_round
          case rel => exact ⟨k + 1, by omega, by go_num, by rw [HS.out]⟩
          case measure => simp [intOf]; omega
    · go_wp2
      go_ret
      exact ⟨ret_nat (by rw [List.take_of_length_le (by omega)]), rfl⟩
end Go.Proofs.Ytkganajbilnanaa
