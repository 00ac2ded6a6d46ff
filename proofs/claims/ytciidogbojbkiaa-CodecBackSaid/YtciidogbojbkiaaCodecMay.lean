/- The contracts of codec.may, codec.Asked. Conditions: as stated. -/
import Derived.Test.YtciidogbojbkiaaCodecEq
import Derived.Test.YtciidogbojbkiaaCodecTold
import Derived.Test.YtciidogbojbkiaaRB
import Derived.Deep.DeepCutAuto
namespace Go.Proofs.Ytciidogbojbkiaa
open Go.ChangeShapes Go.WideShapes Go.ChangeAt Go.RowKit
open NumMath
set_option linter.unusedVariables false
set_option linter.unusedSimpArgs false
set_option maxRecDepth 20000

set_option maxHeartbeats 4000000 in
theorem may_any (r : Req) (hr : r.Fits) (w : World) :
    Calls Try.prog 20 #[reqV r] w fun e w' => e = .returned (.bool (mayR r)) ∧ Below w.heap.size w w' := by
  obtain ⟨k, n, ok, who, whom, what, id, on, pr⟩ := r
  obtain ⟨h1, h2, h3, h4, h5, h6, h7, h8, h9⟩ := hr
  simp only at h1 h2 h3 h4 h5 h6 h7 h8 h9
  unfold reqV
  obtain ⟨z, hz⟩ : ∃ z : Bool, decide (ok = 0 ∧ who = 0 ∧ whom = 0 ∧ what = 0 ∧ id = 0 ∧ on = 0 ∧ pr = 0) = z := ⟨_, rfl⟩
  have hop : ∀ W, (binOp .eql 25 (.agg #[.int .u8 ok, .int .u32 who, .int .u32 whom, .int .u32 what, .int .u32 id, .int .u64 on, .int .u64 pr]) (.agg #[.int .u8 0, .int .u32 0, .int .u32 0, .int .u32 0, .int .u32 0, .int .u64 0, .int .u64 0])).run Try.prog W = .ok (.bool z) W := fun W => by
    rw [← hz]
    exact op_eql W ok who whom what id on pr 0 0 0 0 0 0 0
  have hm : mayR ⟨k, n, ok, who, whom, what, id, on, pr⟩ = (decide (1 ≤ k ∧ k ≤ 6 ∧ (k = 4 ∨ n = 0)) && (decide (k = 2) || z)) := by
    rw [← hz]
    unfold mayR
    rw [Bool.eq_iff_iff]
    simp only [decide_eq_true_iff, Bool.and_eq_true, Bool.or_eq_true]
    omega
  rw [hm]
  clear hz hm
  obtain ⟨hb0, hsz, hcs⟩ := box_start w #[.int .u8 k, .int .u32 n, .int .u8 ok, .int .u32 who, .int .u32 whom, .int .u32 what, .int .u32 id, .int .u64 on, .int .u64 pr] 27
  rcases (show k = 2 ∨ k = 4 ∨ (k ≠ 2 ∧ k ≠ 4) by omega) with rfl | rfl | ⟨k2, k4⟩
  · go_enter Try.func20, Try.ntmps20
    go_upto_region 1 with fail
    generalize World.alloc w _ = W0 at *
    clear hsz
    go_wp2
    go_ret
    refine ⟨ret_bool ?_, hb0⟩
    rw [Bool.eq_iff_iff]
    simp
  · go_enter Try.func20, Try.ntmps20
    go_upto_region 1 with fail
    generalize World.alloc w _ = W0 at *
    clear hsz
    go_wp2
    go_ret
    refine ⟨ret_bool ?_, hb0⟩
    simp
  · have t2 : ((k : Int) == 2) = false := by rw [beq_eq_false_iff_ne]; omega
    have t4 : ((k : Int) == 4) = false := by rw [beq_eq_false_iff_ne]; omega
    go_enter Try.func20, Try.ntmps20
    go_upto_region 1 with fail
    generalize World.alloc w _ = W0 at *
    clear hsz
    go_wp2
    all_goals
      go_ret
      refine ⟨ret_bool ?_, hb0⟩
      first
        | rfl
        | (have e1 : decide (k = 2) = false := by simpa using k2
           rw [e1, Bool.false_or]
           cases z
           · first | rfl | simp
           · rw [Bool.eq_iff_iff]; first | (simp; omega) | simp | omega)
        | (rw [Bool.eq_iff_iff]; simp; omega)
end Go.Proofs.Ytciidogbojbkiaa
