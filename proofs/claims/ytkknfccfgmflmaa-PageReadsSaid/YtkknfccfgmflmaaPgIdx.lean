/- slices.Index and slices.Contains over bools in one block. Conditions: the bools lie there. -/
import Derived.Test.YtkknfccfgmflmaaPgL2
namespace Go.Proofs.Ytkknfccfgmflmaa
open Go.ChangeShapes Go.WideShapes Go.ChangeAt Go.RowKit
open NumMath
set_option linter.unusedVariables false
set_option linter.unusedSimpArgs false
set_option maxRecDepth 20000

set_option maxHeartbeats 1000000 in
theorem idx_any (g a n c : Nat) (t : Nat → Bool) (w : World) (hc : ∀ j, j < n → w.cell? ⟨g, a + j, none⟩ = some (.bool (t (a + j)))) (hn : n ≤ 1000000) :
    Calls Try.prog 63 #[.slice (some ⟨g, a, none⟩) n c, .bool true] w fun e w' => (∃ r : Int, e = .returned (.int .i64 r) ∧ (0 ≤ r ↔ ∃ j, j < n ∧ t (a + j) = true)) ∧ w = w' := by
  go_enter Try.func63, Try.ntmps63
  go_wp2_with fail
  go_loop [5, 8] (fun _ i => ∃ k : Nat, k ≤ n ∧ i = .int .i64 k ∧ ∀ j, j < k → t (a + j) = false) (fun _ i => n - (intOf i).toNat)
  case atStart => exact ⟨0, Nat.zero_le _, rfl, fun j hj => absurd hj (Nat.not_lt_zero j)⟩
  case round =>
    obtain ⟨k, hk, rfl, hall⟩ := hrel
    rcases Nat.lt_or_ge k n with hlt | hge
    · have e1 : decide ((k : Int) < (n : Int)) = true := by rw [decide_eq_true_iff]; omega
      have e2 : (0 : Int) ≤ (k : Int) := by omega
      have e3 : (k : Int) < (n : Int) := by omega
      have hcell := hc k hlt
      have HT := Lib.hid (rfl : t (a + k) = t (a + k))
      obtain ⟨b, hb⟩ : ∃ b, t (a + k) = b := ⟨_, rfl⟩
      rw [hb] at hcell
      cases b
      · have H := Lib.hid (And.intro hall hb)
        clear hall hc hb HT
        go_wp2
        go_round
        case rel =>
          refine ⟨k + 1, by omega, by go_num, fun j hj => ?_⟩
          rcases Nat.lt_or_ge j k with q | q
          · exact H.out.1 j q
          · obtain rfl : j = k := by omega
            exact H.out.2
        case measure => simp [intOf]; omega
      · have H := Lib.hid hb
        clear hall hc hb HT
        go_wp2
        go_ret
        exact ⟨⟨k, rfl, ⟨fun _ => ⟨k, by omega, H.out⟩, fun _ => by omega⟩⟩, rfl⟩
    · obtain rfl : k = n := by omega
      have e1 : decide ((k : Int) < (k : Int)) = false := by rw [decide_eq_false_iff_not]; omega
      have H := Lib.hid hall
      clear hall hc
      go_wp2
      go_ret
      refine ⟨⟨-1, rfl, ⟨fun h => absurd h (by omega), ?_⟩⟩, rfl⟩
      rintro ⟨j, hj, ht⟩
      rw [H.out j hj] at ht
      cases ht
theorem cont_any (g a n c : Nat) (t : Nat → Bool) (w : World) (hc : ∀ j, j < n → w.cell? ⟨g, a + j, none⟩ = some (.bool (t (a + j)))) (hn : n ≤ 1000000) :
    Calls Try.prog 61 #[.slice (some ⟨g, a, none⟩) n c, .bool true] w fun e w' => (∃ r : Bool, e = .returned (.bool r) ∧ (r = true ↔ ∃ j, j < n ∧ t (a + j) = true)) ∧ w = w' := by
  have hi := idx_any g a n c t w hc hn
  clear hc
  go_enter Try.func61, Try.ntmps61
  go_wp2_with fail
  refine hi.mono ?_
  rintro e w1 ⟨⟨r, rfl, hr⟩, rfl⟩
  clear hi
  have H := Lib.hid hr
  clear hr
  go_wp2
  go_ret
  refine ⟨⟨_, rfl, ?_⟩, rfl⟩
  rw [← H.out]
  simp
end Go.Proofs.Ytkknfccfgmflmaa
