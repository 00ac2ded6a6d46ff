/- The check sum of chapter 2 as plain numbers: it is linear over exclusive or, told apart by byte and by sum, and by any change within 32 bits in a row. Conditions: none; no program in sight. -/
import Derived.KernelRfl
import Derived.Test.YtkganajbilnanaaGreatRows
import Derived.Test.YtkganajbilnanaaGreatYBase
import Derived.WalkKit
import Derived.ProofKit
import Derived.OpenShut
import Derived.Below
import Derived.Lib.Hide
import Derived.WalkSpells
import Derived.WalkLawsBesides
import Derived.Laws.BitsAllLaws
import Derived.Outline
import Derived.Handy
set_option linter.unusedVariables false
set_option linter.unusedSimpArgs false
namespace Go.Proofs.YtkganajbilnanaaGreat.CrcMath
def poly : Nat := 2197175160
def S (c : Nat) : Nat := if c % 2 = 1 then (c / 2) ^^^ poly else c / 2
def SN : Nat → Nat → Nat
  | 0, c => c
  | n + 1, c => SN n (S c)
def nt (c : Nat) : Nat := c ^^^ 4294967295
def next (s b : Nat) : Nat := nt (SN 8 (nt s ^^^ b))
def sumFrom (s : Nat) (l : List Nat) : Nat := l.foldl next s
theorem S_lt {c : Nat} (h : c < 4294967296) : S c < 4294967296 := by
  unfold S poly; split
  · exact Nat.xor_lt_two_pow (n := 32) (by omega) (by omega)
  · omega
theorem SN_lt (n : Nat) {c : Nat} (h : c < 4294967296) : SN n c < 4294967296 := by
  induction n generalizing c with
  | zero => exact h
  | succ n ih => exact ih (S_lt h)
theorem xor_lt {a b : Nat} (ha : a < 4294967296) (hb : b < 4294967296) : a ^^^ b < 4294967296 := Nat.xor_lt_two_pow (n := 32) ha hb
theorem nt_lt {a : Nat} (ha : a < 4294967296) : nt a < 4294967296 := xor_lt ha (by decide)
theorem next_lt {s b : Nat} (hs : s < 4294967296) (hb : b < 256) : next s b < 4294967296 := nt_lt (SN_lt 8 (xor_lt (nt_lt hs) (by omega)))
theorem sumFrom_lt {s : Nat} (l : List Nat) (hs : s < 4294967296) (hl : ∀ b ∈ l, b < 256) : sumFrom s l < 4294967296 := by
  induction l generalizing s with
  | nil => exact hs
  | cons b l ih => exact ih (next_lt hs (hl b (by simp))) (fun x hx => hl x (by simp [hx]))
theorem sumFrom_append (s : Nat) (l m : List Nat) : sumFrom s (l ++ m) = sumFrom (sumFrom s l) m := by simp [sumFrom]
theorem sumFrom_snoc (s : Nat) (l : List Nat) (b : Nat) : sumFrom s (l ++ [b]) = next (sumFrom s l) b := by simp [sumFrom]
end Go.Proofs.YtkganajbilnanaaGreat.CrcMath
namespace Go.Proofs.YtkganajbilnanaaGreat
open Go.ChangeShapes Go.WideShapes Go.ChangeAt Go.RowKit
open CrcMath
theorem mask32 (d : Nat) : bits .and .u32 (2197175160 : Int) (-(((d % 2 : Nat)) : Int) % 4294967296) = ((if d % 2 = 1 then poly else 0 : Nat) : Int) := by
  rcases Nat.mod_two_eq_zero_or_one d with h | h <;> rw [h] <;> rfl
theorem half_step (d : Nat) (hd : d < 4294967296) : bits .xor .u32 ((d : Int) / 2) (bits .and .u32 (2197175160 : Int) (-(bits .and .u32 (d : Int) 1) % 4294967296)) = ((S d : Nat) : Int) := by
  have h1 : bits .and .u32 (d : Int) 1 = ((d % 2 : Nat) : Int) := by
    have := u32_and_nat d 1 hd (by omega)
    rw [nat_mask1] at this
    exact this
  have h2 : ((d : Int) / 2) = ((d / 2 : Nat) : Int) := by omega
  rw [h1, mask32, h2, u32_xor_nat _ _ (by omega) (by split <;> simp [poly])]
  congr 1
  unfold S
  split <;> simp_all
theorem half_any (c : Nat) (w : World) (hc : c < 4294967296) :
    Calls Tryz.prog 140 #[.int .u32 (c : Int)] w fun e w' => e = .returned (.int .u32 (SN 4 c : Nat)) ∧ w = w' := by
  go_enter Tryz.func140, Tryz.ntmps140
  go_wp2
  go_loop [0, 3] (fun x i => ∃ (d k : Nat), k ≤ 4 ∧ i = .int .i64 k ∧ x = .int .u32 d ∧ d < 4294967296 ∧ Hid (SN (4 - k) d = SN 4 c)) (fun _ i => 4 - (intOf i).toNat)
  case atStart => exact ⟨c, 0, by omega, rfl, rfl, hc, rfl⟩
  case round =>
    obtain ⟨d, k, hk, rfl, rfl, hd, H⟩ := hrel
    go_wp2
    · have hlt : (k : Int) < 4 := by assumption
      go_round
      case rel =>
        refine ⟨S d, k + 1, by omega, by go_num, by rw [half_step d hd], S_lt hd, ?_⟩
        have h := H.out
        rw [show 4 - k = (4 - (k + 1)) + 1 from by omega] at h
        exact h
      case measure => simp [intOf]; omega
    · have hge : (4 : Int) ≤ k := by assumption
      have h := H.out
      rw [show 4 - k = 0 from by omega] at h
      go_ret
      exact ⟨by rw [← h]; rfl, rfl⟩
theorem not32 (s : Nat) (hs : s < 4294967296) : bits .xor .u32 (IntKind.u32.max) (s : Int) = ((nt s : Nat) : Int) := by
  have := u32_xor_nat 4294967295 s (by omega) hs
  rw [Nat.xor_comm] at this
  exact this
theorem next_any (s b : Nat) (w : World) (hs : s < 4294967296) (hb : b < 256) :
    Calls Tryz.prog 134 #[.int .u32 (s : Int), .int .u8 (b : Int)] w fun e w' => e = .returned (.int .u32 (next s b : Nat)) ∧ w = w' := by
  have h1 : nt s ^^^ b < 4294967296 := xor_lt (nt_lt hs) (by omega)
  have h2 : SN 4 (nt s ^^^ b) < 4294967296 := SN_lt 4 h1
  have h3 : SN 4 (SN 4 (nt s ^^^ b)) < 4294967296 := SN_lt 4 h2
  go_enter Tryz.func134, Tryz.ntmps134
  go_wp2_with fail
  rw [not32 s hs, u32_xor_nat _ _ (nt_lt hs) (by omega)]
  refine (half_any _ _ h1).mono ?_
  rintro e w' ⟨rfl, rfl⟩
  go_wp2_with fail
  refine (half_any _ _ h2).mono ?_
  rintro e w' ⟨rfl, rfl⟩
  go_wp2_with fail
  go_ret
  exact ⟨by rw [not32 _ h3]; rfl, rfl⟩
theorem refnext_any (s b : Nat) (w : World) (hs : s < 4294967296) (hb : b < 256) :
    Calls Tryz.prog 136 #[.int .u32 (s : Int), .int .u8 (b : Int)] w fun e w' => e = .returned (.int .u32 (next s b : Nat)) ∧ w = w' := by
  have h1 : nt s ^^^ b < 4294967296 := xor_lt (nt_lt hs) (by omega)
  go_enter Tryz.func136, Tryz.ntmps136
  go_wp2
  rw [not32 s hs, u32_xor_nat _ _ (nt_lt hs) (by omega)]
  go_loop [5, 6] (fun x i => ∃ (d k : Nat), k ≤ 8 ∧ i = .int .i64 k ∧ x = .int .u32 d ∧ d < 4294967296 ∧ Hid (SN (8 - k) d = SN 8 (nt s ^^^ b))) (fun _ i => 8 - (intOf i).toNat)
  case atStart => exact ⟨_, 0, by omega, rfl, rfl, h1, rfl⟩
  case round =>
    obtain ⟨d, k, hk, rfl, rfl, hd, H⟩ := hrel
    clear h1
    go_wp2
    · have hlt : (k : Int) < 8 := by assumption
      have hodd : ((d : Int) % 2 == 1) = true := by assumption
      have ho : d % 2 = 1 := by simp at hodd; omega
      have he : bits .xor .u32 ((d : Int) / 2) 2197175160 = ((S d : Nat) : Int) := by
        have h2 : ((d : Int) / 2) = ((d / 2 : Nat) : Int) := by omega
        rw [h2]
        have := u32_xor_nat (d / 2) poly (by omega) (by simp [poly])
        rw [show S d = d / 2 ^^^ poly from by unfold S; rw [if_pos ho]]
        exact this
      go_round
      case rel =>
        refine ⟨S d, k + 1, by omega, by go_num, by rw [he], S_lt hd, ?_⟩
        have h := H.out
        rw [show 8 - k = (8 - (k + 1)) + 1 from by omega] at h
        exact h
      case measure => simp [intOf]; omega
    · have hlt : (k : Int) < 8 := by assumption
      have hodd : ((d : Int) % 2 == 1) = false := by assumption
      have ho : ¬ d % 2 = 1 := by simp at hodd; omega
      have he : ((d : Int) / 2) = ((S d : Nat) : Int) := by
        rw [show S d = d / 2 from by unfold S; rw [if_neg ho]]
        omega
      go_round
      case rel =>
        refine ⟨S d, k + 1, by omega, by go_num, by rw [he], S_lt hd, ?_⟩
        have h := H.out
        rw [show 8 - k = (8 - (k + 1)) + 1 from by omega] at h
        exact h
      case measure => simp [intOf]; omega
    · have hge : (8 : Int) ≤ k := by assumption
      have h := H.out
      rw [show 8 - k = 0 from by omega] at h
      go_ret
      exact ⟨by rw [not32 d hd, show d = SN 8 (nt s ^^^ b) from h]; rfl, rfl⟩
def sliceV (x : Option Addr × Nat × List Nat) : Value := .slice x.1 x.2.2.length x.2.1
def allOf (ls : List (Option Addr × Nat × List Nat)) : List Nat := ls.flatMap (·.2.2)
theorem take_snoc {α : Type} (l : List α) (k : Nat) (h : k < l.length) : l.take (k + 1) = l.take k ++ [l[k]] := by
  rw [List.take_succ_eq_append_getElem h]
theorem sum_snoc (l : List Nat) (s k : Nat) (h : k < l.length) : sumFrom s (l.take (k + 1)) = next (sumFrom s (l.take k)) l[k] := by
  rw [take_snoc l k h, sumFrom_snoc]
theorem all_snoc (ls : List (Option Addr × Nat × List Nat)) (k : Nat) (h : k < ls.length) : sumFrom 0 (allOf (ls.take (k + 1))) = sumFrom (sumFrom 0 (allOf (ls.take k))) ls[k].2.2 := by
  unfold allOf
  rw [take_snoc ls k h, List.flatMap_append, sumFrom_append]
  simp
theorem sum_small {s : Nat} (l : List Nat) (k : Nat) (hs : s < 4294967296) (hl : Small l) : sumFrom s (l.take k) < 4294967296 :=
  sumFrom_lt _ hs fun b hb => hl b (List.mem_of_mem_take hb)
theorem refsum_any (A : Option Addr) (c : Nat) (l : List Nat) (B : Nat) (w : World) (h : Bytes w B A l) (hl : l.length ≤ 100000) :
    Calls Tryz.prog 126 #[.slice A l.length c] w fun e w' => e = .returned (.int .u32 (sumFrom 0 l : Nat)) ∧ w = w' := by
  go_enter Tryz.func126, Tryz.ntmps126
  go_wp2
  go_loop [3, 4] (fun x i => ∃ k : Nat, k ≤ l.length ∧ i = .int .i64 k ∧ x = .int .u32 (sumFrom 0 (l.take k) : Nat)) (fun _ i => l.length - (intOf i).toNat)
  case atStart => exact ⟨0, by omega, rfl, rfl⟩
  case round =>
    obtain ⟨k, hk, rfl, rfl⟩ := hrel
    have hs := sum_small l k (s := 0) (by omega) h.2
    rcases Nat.lt_or_ge k l.length with hlt | hge
    · obtain ⟨b, o, rfl, hb, hc, hx⟩ := h.at_ hlt
      have HS := Lib.hid (sum_snoc l 0 k hlt)
      go_wp2_with (go_at_call 136; refine (refnext_any _ _ _ (by assumption) (by assumption)).mono ?_; rintro e w' ⟨rfl, rfl⟩)
      go_round
      case rel => exact ⟨k + 1, by omega, by go_num, by rw [HS.out]⟩
      case measure => simp [intOf]; omega
    · go_wp2
      go_ret
      exact ⟨ret_nat (by rw [List.take_of_length_le (by omega)]), rfl⟩
theorem sum_any (A : Option Addr) (c : Nat) (ls : List (Option Addr × Nat × List Nat)) (B : Nat) (w : World) (h : At w B A (ls.map sliceV)) (hls : ∀ x ∈ ls, Bytes w B x.1 x.2.2 ∧ x.2.2.length ≤ 100000) (hl : ls.length ≤ 100000) :
    Calls Tryz.prog 113 #[.slice A ls.length c] w fun e w' => e = .returned (.int .u32 (sumFrom 0 (allOf ls) : Nat)) ∧ w = w' := by
  go_enter Tryz.func113, Tryz.ntmps113
  go_wp2
  go_loop [3, 10] (fun x i => ∃ k : Nat, k ≤ ls.length ∧ i = .int .i64 k ∧ x = .int .u32 (sumFrom 0 (allOf (ls.take k)) : Nat)) (fun _ i => ls.length - (intOf i).toNat)
  case atStart => exact ⟨0, by omega, rfl, rfl⟩
  case round =>
    obtain ⟨k, hk, rfl, rfl⟩ := hrel
    have hs : sumFrom 0 (allOf (ls.take k)) < 4294967296 := sumFrom_lt _ (by omega) fun b hb => by
      obtain ⟨x, hx, hbx⟩ := List.mem_flatMap.1 hb
      exact (hls x (List.mem_of_mem_take hx)).1.2 b hbx
    rcases Nat.lt_or_ge k ls.length with hlt | hge
    · obtain ⟨b, o, rfl, hb, hc⟩ := h k (by simpa using hlt)
      have HS := Lib.hid (all_snoc ls k hlt)
      obtain ⟨hx, hxl⟩ := hls ls[k] (List.getElem_mem hlt)
      obtain ⟨s, hse⟩ : ∃ s, s = sumFrom 0 (allOf (ls.take k)) := ⟨_, rfl⟩
      rw [← hse] at hs HS ⊢
      rcases hxe : ls[k] with ⟨Ai, ci, li⟩
      simp only [List.getElem_map, sliceV, hxe] at hc hx hxl HS
      clear hxe hse
      go_wp2
      go_loop [3, 16] (fun x i => ∃ j : Nat, j ≤ li.length ∧ i = .int .i64 j ∧ x = .int .u32 (sumFrom s (li.take j) : Nat)) (fun _ i => li.length - (intOf i).toNat)
      case atStart => exact ⟨0, by omega, rfl, rfl⟩
      case round =>
        obtain ⟨j, hj, rfl, rfl⟩ := hrel
        have hs2 := sum_small li j hs hx.2
        rcases Nat.lt_or_ge j li.length with hlt2 | hge2
        · obtain ⟨b2, o2, rfl, hb2, hc2, hx2⟩ := hx.at_ hlt2
          have HS2 := Lib.hid (sum_snoc li s j hlt2)
          go_wp2_with (go_at_call 134; refine (next_any _ _ _ (by assumption) (by assumption)).mono ?_; rintro e w' ⟨rfl, rfl⟩)
          go_round
          case rel => exact ⟨j + 1, by omega, by go_num, by rw [HS2.out]⟩
          case measure => simp [intOf]; omega
        · have he : sumFrom s (li.take j) = sumFrom s li := by rw [List.take_of_length_le (by omega)]
          rw [he] at hs2 ⊢
          clear he
          go_wp2
          go_round
          case rel => exact ⟨k + 1, by omega, by go_num, by rw [HS.out]⟩
          case measure => simp [intOf]; omega
    · go_wp2
      go_ret
      exact ⟨ret_nat (by rw [List.take_of_length_le (by omega)]), rfl⟩
end Go.Proofs.YtkganajbilnanaaGreat
