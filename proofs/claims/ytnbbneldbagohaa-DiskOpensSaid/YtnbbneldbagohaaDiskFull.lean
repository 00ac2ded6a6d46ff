/- The law's own sector with a front. Conditions: as stated. -/
import Derived.Test.YtnbbneldbagohaaRef
import Derived.Test.YtnbbneldbagohaaFrames
import Derived.Test.YtnbbneldbagohaaBrows
import Derived.Test.YtnbbneldbagohaaSteps
namespace Go.Proofs.Ytnbbneldbagohaa
open Go.ChangeShapes Go.WideShapes Go.ChangeAt Go.RowKit
set_option linter.unusedVariables false
set_option linter.unusedSimpArgs false
set_option maxRecDepth 20000

def frontL (fr : List Nat) (j : Nat) : List Nat := fr.take j ++ List.replicate (128 - j) 0
def fullL (fr : List Nat) : List Nat := frontL fr (min fr.length 128)
theorem frontL_length {fr : List Nat} {j : Nat} (h : j ≤ fr.length) (h2 : j ≤ 128) : (frontL fr j).length = 128 := by simp [frontL]; omega
theorem frontL_small {fr : List Nat} (h : Small fr) (j : Nat) : Small (frontL fr j) := fun x hx => by
  rcases List.mem_append.1 hx with q | q
  · exact h x (List.mem_of_mem_take q)
  · rw [(List.mem_replicate.1 q).2]; omega
theorem fullL_length (fr : List Nat) : (fullL fr).length = 128 := frontL_length (by omega) (by omega)
theorem frontL_next {fr : List Nat} {j : Nat} (h : j < fr.length) (h2 : j < 128) : (frontL fr j).set j fr[j] = frontL fr (j + 1) := by
  unfold frontL
  have hl : (fr.take j).length = j := by simp; omega
  rw [List.set_append, hl, if_neg (by omega), Nat.sub_self, show 128 - j = (128 - (j + 1)) + 1 by omega, List.replicate_succ, List.set_cons_zero, List.take_succ_eq_append_getElem h, List.append_assoc]
  rfl
set_option maxHeartbeats 4000000 in
theorem full_any (A : Option Addr) (c : Nat) (fr : List Nat) (B : Nat) (w : World) (h : Bytes w B A fr) (hB : B ≤ w.heap.size) :
    Calls Try.prog 11 #[.slice A fr.length c] w (RetBytes 5 (fullL fr) w) := by
  obtain ⟨i0, hi0, hz0, hz1, hz2⟩ := info_parts u8_info
  go_enter Try.func11, Try.ntmps11
  go_wp2_with (at_make; refine wpList_make_full _ rfl _ _ 28 rfl w.heap.size 5 i0 _ 1 Try.underlying28 hi0 hz0 hz1 .i64 .i64 _ _ 128 rfl rfl rfl rfl (by rw [hz2]; omega) (by unfold maxLen; omega) (Nat.le_refl _) ?_; intro w1 hown1 hg1)
  have hb1 : Below w.heap.size w w1 := (Below.refl _ _).grown hg1 (Nat.le_refl _) (by simp)
  have hgt : w.heap.size < w1.heap.size := (hown1.lt w.heap.size rfl).2
  have hown2 : w1.ownsRow w.heap.size 5 1 (.slice (some ⟨w.heap.size, 0, none⟩) 128 128) 128 ((frontL fr 0).map byteV) := by
    have e : (madeCells (Value.int .u8 0).cells (128 * 1)).toList = (frontL fr 0).map byteV := by
      unfold frontL
      rw [Nat.mul_one, List.take_zero, List.nil_append, List.map_replicate]
      exact toList_madeCells_one _ 128
    rw [← e]
    exact hown1
  clear hown1 hg1
  go_loopw [4] (fun i wr => ∃ (j : Nat), j ≤ 128 ∧ j ≤ fr.length ∧ i = .int .i64 j ∧ wr.ownsRow w.heap.size 5 1 (.slice (some ⟨w.heap.size, 0, none⟩) 128 128) 128 ((frontL fr j).map byteV) ∧ Below w.heap.size w wr) (fun i _ => 128 - (intOf i).toNat)
  case atStart => exact ⟨0, by omega, by omega, rfl, hown2, hb1⟩
  case round =>
    clear hown2 hb1
    obtain ⟨j, hj, hjl, rfl, hown, hb⟩ := hrel
    rcases (show (j < 128 ∧ j < fr.length) ∨ (j = 128) ∨ (j < 128 ∧ j = fr.length) from by omega) with ⟨h1, h2⟩ | h1 | ⟨h1, h2⟩
    · have e1 : decide ((j : Int) < 128) = true := by rw [decide_eq_true_iff]; omega
      have e2 : decide ((j : Int) < (fr.length : Int)) = true := by rw [decide_eq_true_iff]; omega
      obtain ⟨b, o, rfl, hbB, q0, qx⟩ := (h.below (hb.mono hB)).at_ (k := j) h2
      have hz := hown.frozenAt j
      have hv0 : ∃ v0, wr.cell? ⟨w.heap.size, j, none⟩ = some v0 := by
        have := hown.cellAt j (by omega)
        rw [List.getElem?_eq_getElem (by rw [List.length_map, frontL_length hjl hj]; omega)] at this
        exact ⟨_, this⟩
      obtain ⟨v0, hv0⟩ := hv0
      have hnx := frontL_next h2 h1
      obtain ⟨y, hy⟩ : ∃ y, fr[j] = y := ⟨_, rfl⟩
      rw [hy] at hnx q0 qx
      have hst := (hown.stored j (byteV y)).1
      rw [← List.map_set, hnx] at hst
      have HST := Lib.hid hst
      clear hst hnx hy hown h
      go_wp2_with fail
      go_roundw
      case rel => exact ⟨j + 1, by omega, by omega, by go_num, HST.out, hb.setCell (by exact Nat.le_refl _) _⟩
      case measure => simp [intOf]; omega
    · subst h1
      have e1 : decide ((128 : Int) < 128) = false := rfl
      have hl : fullL fr = frontL fr 128 := by unfold fullL; rw [Nat.min_eq_right hjl]
      go_wp2
      go_ret
      exact ⟨some ⟨w.heap.size, 0, none⟩, 128, ret_slice (fullL_length fr).symm, by rw [fullL_length, hl]; exact hown, hb, by rw [hl]; exact frontL_small h.2 128⟩
    · have e1 : decide ((j : Int) < 128) = true := by rw [decide_eq_true_iff]; omega
      have e2 : decide ((j : Int) < (fr.length : Int)) = false := by rw [decide_eq_false_iff_not]; omega
      have hl : fullL fr = frontL fr j := by unfold fullL; rw [Nat.min_eq_left (by omega), h2]
      go_wp2
      go_ret
      exact ⟨some ⟨w.heap.size, 0, none⟩, 128, ret_slice (fullL_length fr).symm, by rw [fullL_length, hl]; exact hown, hb, by rw [hl]; exact frontL_small h.2 j⟩
end Go.Proofs.Ytnbbneldbagohaa
