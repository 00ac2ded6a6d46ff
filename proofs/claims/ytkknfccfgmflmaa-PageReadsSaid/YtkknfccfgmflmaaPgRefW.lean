/- page: the document's Count, low, all, Free, Number, LSN, Stamp, New. Conditions: its page lies there. -/
import Derived.Test.YtkknfccfgmflmaaPgRefT
namespace Go.Proofs.Ytkknfccfgmflmaa
open Go.ChangeShapes Go.WideShapes Go.ChangeAt Go.RowKit
open NumMath
set_option linter.unusedVariables false
set_option linter.unusedSimpArgs false
set_option maxRecDepth 20000

section
variable {w : World} {gr : Nat} {r : RP}
theorem rcount_any (h : RAt w gr r) :
    Calls Try.prog 56 #[.pointer (some ⟨gr, 0, none⟩)] w fun e w' => e = .returned (.int .i64 (topN r.S 40 : Nat)) ∧ w = w' := by
  have hS := fun (k : Nat) (hk : k < 40) => rpc_S h.blk hk
  clear h
  go_enter Try.func56, Try.ntmps56
  go_wp2_with fail
  go_loop [3, 4] (fun n i => ∃ k : Nat, k ≤ 40 ∧ i = .int .i64 k ∧ n = .int .i64 (topN r.S k : Nat)) (fun _ i => 40 - (intOf i).toNat)
  case atStart => exact ⟨0, Nat.zero_le _, rfl, rfl⟩
  case round =>
    obtain ⟨k, hk, rfl, rfl⟩ := hrel
    rcases Nat.lt_or_ge k 40 with hlt | hge
    · have e1 : decide ((k : Int) < 40) = true := by rw [decide_eq_true_iff]; omega
      have e2 : (0 : Int) ≤ (k : Int) := by omega
      have e3 : (k : Int) < 40 := by omega
      have hc := hS k hlt
      have hn : topN r.S (k + 1) = if 0 < r.S k then k + 1 else topN r.S k := rfl
      clear hS
      generalize r.S k = y at *
      by_cases hy : 0 < y
      · rw [if_pos hy] at hn
        have HN := Lib.hid hn
        clear hn
        go_wp2
        go_round
        case rel => exact ⟨k + 1, by omega, by go_num, by rw [HN.out]; go_num⟩
        case measure => simp [intOf]; omega
      · rw [if_neg hy] at hn
        obtain rfl : y = 0 := by omega
        have HN := Lib.hid hn
        clear hn hy
        go_wp2
        go_round
        case rel => exact ⟨k + 1, by omega, by go_num, by rw [HN.out]⟩
        case measure => simp [intOf]; omega
    · obtain rfl : k = 40 := by omega
      have e1 : decide (((40 : Nat) : Int) < 40) = false := rfl
      clear hS
      go_wp2
      go_ret
      exact ⟨rfl, rfl⟩
theorem rlow_any (h : RAt w gr r) :
    Calls Try.prog 58 #[.pointer (some ⟨gr, 0, none⟩)] w fun e w' => e = .returned (.int .i64 (lowS r 40 : Nat)) ∧ w = w' := by
  have hS := fun (k : Nat) (hk : k < 40) => rpc_S h.blk hk
  have hO := fun (k : Nat) (hk : k < 40) => rpc_O h.blk hk
  clear h
  go_enter Try.func58, Try.ntmps58
  go_wp2_with fail
  go_loop [3, 4] (fun n i => ∃ k : Nat, k ≤ 40 ∧ i = .int .i64 k ∧ n = .int .i64 (lowS r k : Nat)) (fun _ i => 40 - (intOf i).toNat)
  case atStart => exact ⟨0, Nat.zero_le _, rfl, rfl⟩
  case round =>
    obtain ⟨k, hk, rfl, rfl⟩ := hrel
    rcases Nat.lt_or_ge k 40 with hlt | hge
    · have e1 : decide ((k : Int) < 40) = true := by rw [decide_eq_true_iff]; omega
      have e2 : (0 : Int) ≤ (k : Int) := by omega
      have e3 : (k : Int) < 40 := by omega
      have hc := hS k hlt
      have hc2 := hO k hlt
      have hn : lowS r (k + 1) = if 0 < r.S k then min (lowS r k) (r.O k) else lowS r k := rfl
      clear hS hO
      generalize r.S k = y at *
      generalize r.O k = x at *
      generalize lowS r k = m at *
      by_cases hy : 0 < y
      · rw [if_pos hy] at hn
        have HN := Lib.hid hn
        clear hn
        rcases Nat.lt_or_ge x m with q | q
        · have q1 : (x : Int) < (m : Int) := by omega
          have q2 : ¬ (m : Int) ≤ (x : Int) := by omega
          go_wp2
          go_round
          case rel => exact ⟨k + 1, by omega, by go_num, by rw [HN.out, Nat.min_eq_right (by omega)]⟩
          case measure => simp [intOf]; omega
        · have q2 : (m : Int) ≤ (x : Int) := by omega
          go_wp2
          go_round
          case rel => exact ⟨k + 1, by omega, by go_num, by rw [HN.out, Nat.min_eq_left (by omega)]⟩
          case measure => simp [intOf]; omega
      · rw [if_neg hy] at hn
        obtain rfl : y = 0 := by omega
        have HN := Lib.hid hn
        clear hn hy
        go_wp2
        go_round
        case rel => exact ⟨k + 1, by omega, by go_num, by rw [HN.out]⟩
        case measure => simp [intOf]; omega
    · obtain rfl : k = 40 := by omega
      have e1 : decide (((40 : Nat) : Int) < 40) = false := rfl
      clear hS hO
      go_wp2
      go_ret
      exact ⟨rfl, rfl⟩
theorem rall_any (h : RAt w gr r) (b : Int) :
    Calls Try.prog 57 #[.pointer (some ⟨gr, 0, none⟩), .int .i64 b] w fun e w' => e = .returned (.int .i64 (allS r.S b 40 : Nat)) ∧ w = w' := by
  have hS := fun (k : Nat) (hk : k < 40) => rpc_S h.blk hk
  have hb := fun (k : Nat) (hk : k ≤ 40) => allS_le r.S b k fun s hs => (h.fit s (by omega)).2
  have hl := fun (k : Nat) (hk : k < 40) => (h.fit k hk).2
  clear h
  go_enter Try.func57, Try.ntmps57
  go_wp2_with fail
  go_loop [5, 6] (fun n i => ∃ k : Nat, k ≤ 40 ∧ i = .int .i64 k ∧ n = .int .i64 (allS r.S b k : Nat)) (fun _ i => 40 - (intOf i).toNat)
  case atStart => exact ⟨0, Nat.zero_le _, rfl, rfl⟩
  case round =>
    obtain ⟨k, hk, rfl, rfl⟩ := hrel
    rcases Nat.lt_or_ge k 40 with hlt | hge
    · have e1 : decide ((k : Int) < 40) = true := by rw [decide_eq_true_iff]; omega
      have e2 : (0 : Int) ≤ (k : Int) := by omega
      have e3 : (k : Int) < 40 := by omega
      have hc := hS k hlt
      have h1 := hb k hk
      have h2 := hl k hlt
      have hn : allS r.S b (k + 1) = if (k : Int) = b then allS r.S b k else allS r.S b k + r.S k := rfl
      clear hS hb hl
      generalize r.S k = y at *
      generalize allS r.S b k = m at *
      by_cases hy : (k : Int) = b
      · have t1 : ((k : Int) != b) = false := by simp [hy]
        rw [if_pos hy] at hn
        have HN := Lib.hid hn
        clear hn hy
        go_wp2
        go_round
        case rel => exact ⟨k + 1, by omega, by go_num, by rw [HN.out]⟩
        case measure => simp [intOf]; omega
      · have t1 : ((k : Int) != b) = true := by simp [hy]
        rw [if_neg hy] at hn
        have HN := Lib.hid hn
        clear hn hy
        go_wp2
        go_round
        case rel => exact ⟨k + 1, by omega, by go_num, by rw [HN.out]; go_num⟩
        case measure => simp [intOf]; omega
    · obtain rfl : k = 40 := by omega
      have e1 : decide (((40 : Nat) : Int) < 40) = false := rfl
      clear hS hb hl
      go_wp2
      go_ret
      exact ⟨rfl, rfl⟩
def freeS (r : RP) : Int := 432 - 4 * ((topN r.S 40 : Nat) : Int) - ((allS r.S (-1) 40 : Nat) : Int)
theorem rfree_any (h : RAt w gr r) :
    Calls Try.prog 47 #[.pointer (some ⟨gr, 0, none⟩)] w fun e w' => e = .returned (.int .i64 (freeS r)) ∧ w = w' := by
  have c1 := rcount_any h
  have c2 := rall_any h (-1)
  have h1 := topN_le r.S 40
  have h2 := allS_le r.S (-1) 40 fun s hs => (h.fit s hs).2
  have hf : freeS r = 432 - 4 * ((topN r.S 40 : Nat) : Int) - ((allS r.S (-1) 40 : Nat) : Int) := rfl
  rw [hf]
  clear hf h
  generalize topN r.S 40 = t at *
  generalize allS r.S (-1) 40 = m at *
  have v1 : IntKind.i64.wrap (4 * (t : Int)) = 4 * (t : Int) := by rw [IntKind.wrap_i64]; omega
  have v2 : IntKind.i64.wrap ((432 : Int) - 4 * (t : Int)) = 432 - 4 * (t : Int) := by rw [IntKind.wrap_i64]; omega
  have v3 : IntKind.i64.wrap ((432 : Int) - 4 * (t : Int) - (m : Int)) = 432 - 4 * (t : Int) - (m : Int) := by rw [IntKind.wrap_i64]; omega
  go_enter Try.func47, Try.ntmps47
  go_wp2_with fail
  refine c1.mono ?_
  rintro e w1 ⟨rfl, rfl⟩
  clear c1
  go_wp2_with fail
  refine c2.mono ?_
  rintro e w1 ⟨rfl, rfl⟩
  go_wp2
  go_ret
  exact ⟨rfl, rfl⟩
theorem rnumber_any (h : RAt w gr r) :
    Calls Try.prog 45 #[.pointer (some ⟨gr, 0, none⟩)] w fun e w' => e = .returned (.int .u32 (r.N : Nat)) ∧ w = w' := by
  have hc := rpc_N h.blk
  clear h
  go_enter Try.func45, Try.ntmps45
  go_wp2
  go_ret
  exact ⟨rfl, rfl⟩
theorem rlsn_any (h : RAt w gr r) :
    Calls Try.prog 46 #[.pointer (some ⟨gr, 0, none⟩)] w fun e w' => e = .returned (.int .u64 (r.L : Nat)) ∧ w = w' := by
  have hc := rpc_L h.blk
  clear h
  go_enter Try.func46, Try.ntmps46
  go_wp2
  go_ret
  exact ⟨rfl, rfl⟩
theorem only_one {w : World} {g i : Nat} (u : Value) : Only (fun b => b = g) w (w.setCell ⟨g, i, none⟩ u) := (Only.refl (fun b => b = g) w).setCell (p := ⟨g, i, none⟩) (.inl rfl) u
theorem rstamp_any (h : RAt w gr r) (v : Nat) (hv : v < 18446744073709551616) :
    Calls Try.prog 43 #[.pointer (some ⟨gr, 0, none⟩), .int .u64 v] w fun e w' => e = .returned (.tuple #[]) ∧ RPost gr { r with L := v } w w' := by
  have hc := rpc_L h.blk
  have fz := h.blk.frozen 0
  have FIN : Hid (RPost gr { r with L := v } w (w.setCell ⟨gr, 0, none⟩ (.int .u64 (v : Int)))) := Lib.hid ⟨⟨⟨hv, h.n32, h.fit, h.small⟩, rpb_L h.blk v⟩, only_one _⟩
  clear h
  go_enter Try.func43, Try.ntmps43
  go_wp2
  go_end0
  exact ⟨rfl, FIN.out⟩
def rpZero (n : Nat) : RP := ⟨0, n, fun _ => 0, fun _ => 0, fun _ => 0⟩
theorem rpZero_fit (n : Nat) (hn : n < 4294967296) : RFit (rpZero n) := ⟨by show 0 < _; omega, hn, fun s hs => by show 0 + 0 ≤ 448 ∧ 0 ≤ 64; omega, fun i => by show 0 < _; omega⟩
end
end Go.Proofs.Ytkknfccfgmflmaa
