/- The contract of codec.Tell. Conditions: numbers fit their kinds. -/
import Derived.Test.YtciidogbojbkiaaCodecTold
namespace Go.Proofs.Ytciidogbojbkiaa
open Go.ChangeShapes Go.WideShapes Go.ChangeAt Go.RowKit
open NumMath
set_option linter.unusedVariables false
set_option linter.unusedSimpArgs false
set_option maxRecDepth 20000
set_option maxHeartbeats 4000000 in
theorem tell_any (r : Rep) (hr : r.Fits) (w : World) :
    Calls Try.prog 16 #[repV r] w (RetBytes 5 (tellL r) w) := by
  obtain ⟨x, a, b, c⟩ := r
  obtain ⟨h1, h2, h3, h4⟩ := hr
  simp only at h1 h2 h3 h4
  unfold repV
  have i0 : ∀ w, (Instr.index 60 (.agg #[.int .u64 a, .int .u64 b, .int .u64 c]) (.int .i64 0)).run Try.prog w = .ok (.int .u64 a) w := fun _ => by kernel_rfl
  have i1 : ∀ w, (Instr.index 60 (.agg #[.int .u64 a, .int .u64 b, .int .u64 c]) (.int .i64 1)).run Try.prog w = .ok (.int .u64 b) w := fun _ => by kernel_rfl
  have i2 : ∀ w, (Instr.index 60 (.agg #[.int .u64 a, .int .u64 b, .int .u64 c]) (.int .i64 2)).run Try.prog w = .ok (.int .u64 c) w := fun _ => by kernel_rfl
  obtain ⟨hw0, hb0, hsz, hcs⟩ := wr_start w #[.int .u16 x, .int .u64 a, .int .u64 b, .int .u64 c] 42
  go_enter Try.func16, Try.ntmps16
  go_wp2_with fail
  generalize World.alloc (World.alloc w _) _ = W0 at *
  refine (number_any x 2 (by omega) (by omega) (by omega) W0 _ _ _ hw0 (by simp)).mono ?_
  rintro e w1 ⟨rfl, hw1⟩
  have hc1 := fun o => (hw1.cell (b := w.heap.size) (by omega) (by omega) o).trans (hcs o)
  clear hw0
  go_wp2_with fail
  clear hc1
  go_loopw [5, 17] (fun _ i wr => ∃ j : Nat, j ≤ 3 ∧ i = .int .i64 j ∧ Wr W0 (w.heap.size + 1) (putF 2 x ++ ([a, b, c].take j).flatMap (putF 8)) wr) (fun _ i _ => 3 - (intOf i).toNat)
  case atStart => exact ⟨0, by omega, rfl, by simpa using hw1⟩
  case round =>
    obtain ⟨j, hj, rfl, hw⟩ := hrel
    clear hw1
    rcases (show j = 0 ∨ j = 1 ∨ j = 2 ∨ j = 3 by omega) with rfl | rfl | rfl | rfl
    · go_wp2_with fail
      refine (number_any a 8 (by omega) (by omega) (by omega) W0 _ _ _ hw (by simp [putF_length])).mono ?_
      rintro e w4 ⟨rfl, hw4⟩
      go_wp2_with fail
      go_roundw
      case rel => exact ⟨1, by omega, rfl, by simpa using hw4⟩
      case measure => simp [intOf]
    · go_wp2_with fail
      refine (number_any b 8 (by omega) (by omega) (by omega) W0 _ _ _ hw (by simp [putF_length])).mono ?_
      rintro e w4 ⟨rfl, hw4⟩
      go_wp2_with fail
      go_roundw
      case rel => exact ⟨2, by omega, rfl, by simpa using hw4⟩
      case measure => simp [intOf]
    · go_wp2_with fail
      refine (number_any c 8 (by omega) (by omega) (by omega) W0 _ _ _ hw (by simp [putF_length])).mono ?_
      rintro e w4 ⟨rfl, hw4⟩
      go_wp2_with fail
      go_roundw
      case rel => exact ⟨3, by omega, rfl, by simpa using hw4⟩
      case measure => simp [intOf]
    · obtain ⟨A, cc, hcell, hret⟩ := hw.ret hb0 (by omega)
      have hask : putF 2 x ++ ([a, b, c].take 3).flatMap (putF 8) = tellL ⟨x, a, b, c⟩ := by simp [tellL]
      rw [hask] at hcell hret
      clear hask hw
      go_wp2_with fail
      go_ret
      exact hret
end Go.Proofs.Ytciidogbojbkiaa
