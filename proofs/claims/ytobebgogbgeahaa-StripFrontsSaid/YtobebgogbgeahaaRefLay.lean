/- The contracts of the document's Sector and Lay. Conditions: the stream's length ≤ 100000. -/
import Derived.Test.YtobebgogbgeahaaRefs
namespace Go.Proofs.Ytobebgogbgeahaa
open Go.ChangeShapes Go.WideShapes Go.ChangeAt Go.RowKit
set_option linter.unusedVariables false
set_option linter.unusedSimpArgs false
set_option maxRecDepth 20000

/-- a sector of which the first j bytes have been copied -/
def partOf (l : List Nat) (j : Nat) : List Nat := l.take j ++ List.replicate (128 - j) 0
theorem partOf_length {l : List Nat} {j : Nat} (h : j ≤ l.length) (h2 : j ≤ 128) : (partOf l j).length = 128 := by simp [partOf]; omega
theorem partOf_set {l : List Nat} {j : Nat} (h : j < l.length) (h2 : l.length ≤ 127) : (partOf l j).set j l[j] = partOf l (j + 1) := by
  unfold partOf
  rw [List.take_succ_eq_append_getElem h, show 128 - j = (128 - (j + 1)) + 1 by omega, List.replicate_succ, List.set_append_right _ _ (by simp; omega)]
  simp only [List.length_take, Nat.min_eq_left (Nat.le_of_lt h), Nat.sub_self, List.set_cons_zero, List.append_assoc, List.singleton_append]
theorem partOf_end {l : List Nat} (h2 : l.length ≤ 127) : (partOf l l.length).set 127 l.length = sectorOf l := by
  unfold partOf sectorOf
  rw [List.take_length, show 128 - l.length = (127 - l.length) + 1 by omega, List.replicate_succ', ← List.append_assoc, List.set_append_right _ _ (by simp; omega)]
  congr 1
  simp only [List.length_append, List.length_replicate, show 127 - (l.length + (127 - l.length)) = 0 by omega, List.set_cons_zero]

set_option maxHeartbeats 2000000 in
theorem sector_any (A : Option Addr) (c : Nat) (l : List Nat) (k : Nat) (B : Nat) (w : World) (hl : Bytes w B A l) (hB : B ≤ w.heap.size) (hn : l.length ≤ 100000) (hk : k < 100000) :
    Calls Try.prog 20 #[.slice A l.length c, .int .i64 k] w fun e w' => ∃ g, e = .returned (.slice (some ⟨g, 0, none⟩) 128 128) ∧ w'.ownsRow w.heap.size 5 1 (.slice (some ⟨g, 0, none⟩) 128 128) 128 ((sectorOf (chunkOf l k)).map byteV) ∧ Below w.heap.size w w' := by
  obtain ⟨i0, hi0, hz0, hz1, hz2⟩ := info_parts u8_info
  obtain ⟨i, hi⟩ : ∃ i, 127 * k = i := ⟨_, rfl⟩
  have hiz : (127 : Int) * (k : Int) = (i : Int) := by omega
  have hib : i < 12700000 := by omega
  obtain ⟨m, hm⟩ : ∃ m, (chunkOf l k).length = m := ⟨_, rfl⟩
  have hm2 : m = min 127 (l.length - i) := by rw [← hm, chunkOf_length, hi]
  have hget : ∀ j (hj : j < m) (hh : i + j < l.length), (chunkOf l k)[j]'(by rw [hm]; exact hj) = l[i + j] := fun j hj hh => by
    simp only [chunkOf, List.getElem_take, List.getElem_drop]
    congr 1
    omega
  go_enter Try.func20, Try.ntmps20
  go_wp2_with (at_make; refine wpList_make_full _ rfl _ _ 22 rfl w.heap.size 5 i0 _ 1 Try.underlying22 hi0 hz0 hz1 .i64 .i64 _ _ 128 rfl rfl rfl rfl (by rw [hz2]; omega) (by unfold maxLen; omega) (Nat.le_refl _) ?_; intro w1 hown1 hg1)
  have hb1 : Below w.heap.size w w1 := (Below.refl _ _).grown hg1 (Nat.le_refl _) (by simp)
  have hown2 : w1.ownsRow w.heap.size 5 1 (.slice (some ⟨w.heap.size, 0, none⟩) 128 128) 128 ((partOf (chunkOf l k) 0).map byteV) := by
    have e : (madeCells (Value.int .u8 0).cells (128 * 1)).toList = (partOf (chunkOf l k) 0).map byteV := by
      rw [Nat.mul_one]
      refine (toList_madeCells_one _ 128).trans ?_
      simp [partOf, byteV]
    rw [← e]
    exact hown1
  clear hown1 hg1
  go_loopw [6, 7] (fun u i' wr => ∃ j : Nat, j ≤ m ∧ u = .int .i64 j ∧ i' = .int .i64 ((i + j : Nat) : Int) ∧ wr.ownsRow w.heap.size 5 1 (.slice (some ⟨w.heap.size, 0, none⟩) 128 128) 128 ((partOf (chunkOf l k) j).map byteV) ∧ Below w.heap.size w wr) (fun u _ _ => m - (intOf u).toNat)
  case atStart => exact ⟨0, by omega, rfl, rfl, hown2, hb1⟩
  case round =>
    clear hown2 hb1
    obtain ⟨j, hj, rfl, rfl, hown, hb⟩ := hrel
    obtain ⟨p, hp⟩ : ∃ p, i + j = p := ⟨_, rfl⟩
    rw [hp]
    rcases Nat.lt_or_ge j m with hlt | hge
    · have hpl : p < l.length := by omega
      have ht1 : decide ((p : Int) < (l.length : Int)) = true := by rw [decide_eq_true_iff]; omega
      have ht2 : decide ((j : Int) < 127) = true := by rw [decide_eq_true_iff]; omega
      obtain ⟨b, o, rfl, hbB, hcell, hsm⟩ := (hl.below (hb.mono hB)).at_ hpl
      have hz := hown.frozenAt j
      obtain ⟨v0, hv0⟩ : ∃ v0, wr.cell? ⟨w.heap.size, j, none⟩ = some v0 := ⟨_, (hown.cellAt j (by omega)).trans (List.getElem?_eq_getElem (by rw [hown.1]; omega))⟩
      have hst := Lib.hid (hown.stored j (byteV l[p]))
      have hset : ((partOf (chunkOf l k) j).map byteV).set j (byteV l[p]) = (partOf (chunkOf l k) (j + 1)).map byteV := by
        rw [← partOf_set (by omega) (by omega), List.map_set, hget j hlt (by omega)]
        congr 2
        exact getElem_congr_idx hp.symm
      generalize l[p] = y at *
      have HS := Lib.hid hset
      clear hset
      go_wp2
      go_roundw
      case rel =>
        obtain ⟨s1, s2⟩ := hst.out
        rw [HS.out] at s1
        have hbb := below_own (v := .slice (some ⟨w.heap.size, 0, none⟩) 128 128) hb s2 hown (Nat.le_refl _) hb.size
        exact ⟨j + 1, by omega, by go_num, by first | (congr 1; omega) | (rw [← hp]; go_num), s1, hbb⟩
      case measure => simp [intOf]; omega
    · obtain rfl : j = m := by omega
      have hst := Lib.hid (hown.stored 127 (byteV j))
      have hset : ((partOf (chunkOf l k) j).map byteV).set 127 (byteV j) = (sectorOf (chunkOf l k)).map byteV := by
        rw [← partOf_end (by omega), List.map_set, hm]
      have hz := hown.frozenAt 127
      obtain ⟨v0, hv0⟩ : ∃ v0, wr.cell? ⟨w.heap.size, 127, none⟩ = some v0 := ⟨_, (hown.cellAt 127 (by omega)).trans (List.getElem?_eq_getElem (by rw [hown.1]; omega))⟩
      have hj127 : j ≤ 127 := by omega
      have hq : (j : Int) % 256 = (j : Int) := by omega
      have HS := Lib.hid hset
      have hor : p < l.length ∧ j = 127 ∨ ¬ p < l.length := by omega
      clear hset hl hget hm hm2
      rcases hor with ⟨h1, h2⟩ | h1
      · have ht1 : decide ((p : Int) < (l.length : Int)) = true := by rw [decide_eq_true_iff]; omega
        have ht2 : decide ((j : Int) < 127) = false := by rw [decide_eq_false_iff_not]; omega
        go_wp2
        go_ret
        obtain ⟨s1, s2⟩ := hst.out
        rw [HS.out] at s1
        have hbb := below_own (v := .slice (some ⟨w.heap.size, 0, none⟩) 128 128) hb s2 hown (Nat.le_refl _) hb.size
        first | exact ⟨_, rfl, s1, hbb⟩ | (rw [h2] at s1 hbb; exact ⟨_, rfl, s1, hbb⟩)
      · have ht1 : decide ((p : Int) < (l.length : Int)) = false := by rw [decide_eq_false_iff_not]; omega
        go_wp2
        go_ret
        obtain ⟨s1, s2⟩ := hst.out
        rw [HS.out] at s1
        have hbb := below_own (v := .slice (some ⟨w.heap.size, 0, none⟩) 128 128) hb s2 hown (Nat.le_refl _) hb.size
        first | exact ⟨_, rfl, s1, hbb⟩ | (rw [h2] at s1 hbb; exact ⟨_, rfl, s1, hbb⟩)
end Go.Proofs.Ytobebgogbgeahaa
