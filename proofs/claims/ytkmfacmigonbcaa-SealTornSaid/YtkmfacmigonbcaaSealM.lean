/- seal.marks and both Greatest: what they answer. Conditions: as stated. -/
import Derived.Test.YtkmfacmigonbcaaNum
import Derived.Test.YtkmfacmigonbcaaBlocks
import Derived.Deep.RegionHeld3
namespace Go.Proofs.Ytkmfacmigonbcaa
open Go.ChangeShapes Go.WideShapes Go.ChangeAt Go.RowKit
open NumMath
set_option linter.unusedVariables false
set_option linter.unusedSimpArgs false

def markA (b : List Nat) : Nat := if b.length = 128 then getL (b.take 8) else 0
def markB (b : List Nat) : Nat := if b.length = 128 then getL ((b.drop 120).take 8) else 0
def markOk (b : List Nat) : Bool := decide (b.length = 128)
theorem markA_lt {b : List Nat} (h : Small b) : markA b < 18446744073709551616 := by unfold markA; split; exact get8_lt b 8 h (by omega); omega
theorem markB_lt {b : List Nat} (h : Small b) : markB b < 18446744073709551616 := by unfold markB; split; exact get8_lt _ 8 (fun x hx => h x (List.mem_of_mem_drop hx)) (by omega); omega
set_option maxHeartbeats 4000000 in
theorem marks_any (A : Option Addr) (c : Nat) (b : List Nat) (B : Nat) (w : World) (h : Bytes w B A b) (hlc : b.length ≤ c) (hl : b.length ≤ 100000) :
    Calls Try.prog 23 #[.slice A b.length c] w fun e w' => e = .returned (.tuple #[.int .u64 (markA b : Nat), .int .u64 (markB b : Nat), .bool (markOk b)]) ∧ Drew w w' := by
  by_cases hn : b.length = 128
  · have ht : ((b.length : Int) != 128) = false := by rw [hn]; rfl
    have hA : markA b = getL (b.take 8) := if_pos hn
    have hB : markB b = getL ((b.drop 120).take 8) := if_pos hn
    have hO : markOk b = true := decide_eq_true hn
    rw [hA, hB, hO]
    clear hA hB hO
    obtain ⟨bb, o, rfl, hbb, -, -⟩ := h.at_ (k := 0) (by omega)
    obtain ⟨x, hx⟩ : ∃ x, getL (b.take 8) = x := ⟨_, rfl⟩
    obtain ⟨y, hy⟩ : ∃ y, getL ((b.drop 120).take 8) = y := ⟨_, rfl⟩
    have h1 : ∀ (c' : Nat) (W : World), 8 ≤ c' → Drew w W → Calls Try.prog 27 #[.slice (some ⟨bb, o, none⟩) 8 c'] W fun e w' => e = .returned (.int .u64 (x : Nat)) ∧ W = w' := fun c' W hc' hd => by
      have := get_any (some ⟨bb, o, none⟩) c' (b.take 8) B W ((h.below (hd.below B)).take 8) (by simp; omega) (by simp; omega)
      rw [show (b.take 8).length = 8 by simp; omega, List.take_take, Nat.min_self, hx] at this
      exact this
    have h2 : ∀ (c' : Nat) (W : World), 8 ≤ c' → Drew w W → Calls Try.prog 27 #[.slice (some ⟨bb, o + 120, none⟩) 8 c'] W fun e w' => e = .returned (.int .u64 (y : Nat)) ∧ W = w' := fun c' W hc' hd => by
      have hd2 := (h.below (hd.below B)).drop 120
      have := get_any (some ⟨bb, o + 120, none⟩) c' (b.drop 120) B W hd2 (by simp; omega) (by simp; omega)
      rw [show (b.drop 120).length = 8 by simp; omega, hy] at this
      exact this
    have hd0 := Drew.refl w
    rw [hn]
    have hc1 : 128 ≤ c := by omega
    have hc2 : (8 : Int) ≤ (c : Int) := by omega
    have hc3 : (128 : Int) ≤ (c : Int) := by omega
    have hc4 : 8 ≤ c := by omega
    rw [hx, hy]
    clear hx hy h
    go_enter Try.func23, Try.ntmps23
    go_wp2_with fail
    go_region_held3 (fun w' => Drew w w') (first | assumption | exact hd0.more 1) (first
      | ((with_reducible refine (h1 _ _ ?_ ?_).mono ?_); (omega); (first | assumption | exact hd0.more 1); rintro e w1 ⟨rfl, rfl⟩)
      | ((with_reducible refine (h2 _ _ ?_ ?_).mono ?_); (omega); (first | assumption | exact hd0.more 1); rintro e w1 ⟨rfl, rfl⟩)
      | fail)
    go_wp2
    go_ret3
    exact ⟨rfl, hd0.more 1⟩
  · have ht : ((b.length : Int) != 128) = true := by rw [bne_iff_ne]; omega
    have hA : markA b = 0 := if_neg hn
    have hB : markB b = 0 := if_neg hn
    have hO : markOk b = false := decide_eq_false hn
    rw [hA, hB, hO]
    go_enter Try.func23, Try.ntmps23
    go_wp2
    go_ret3
    exact ⟨rfl, Drew.refl w⟩
end Go.Proofs.Ytkmfacmigonbcaa
