/- The law's own page: 448 bytes. Conditions: as stated. -/
import Derived.Test.YtkmfacmigonbcaaNum
import Derived.Test.YtkmfacmigonbcaaBlocks
import Derived.Deep.RegionHeld3
namespace Go.Proofs.Ytkmfacmigonbcaa
open Go.ChangeShapes Go.WideShapes Go.ChangeAt Go.RowKit
set_option linter.unusedVariables false
set_option linter.unusedSimpArgs false
set_option maxRecDepth 20000

theorem page_val (x d : Nat) (h : d ≤ 448) : IntKind.u8.wrap ((x : Int) + IntKind.u8.wrap (IntKind.i64.wrap (d : Int))) = (((x + d) % 256 : Nat) : Int) := by
  rw [IntKind.wrap_i64, IntKind.wrap_u8, IntKind.wrap_u8]; omega
set_option maxHeartbeats 4000000 in
theorem page_any (A : Option Addr) (c : Nat) (fr : List Nat) (B : Nat) (w : World) (h : Bytes w B A fr) (hB : B ≤ w.heap.size) (hcap : fr.length ≤ c) (hl : fr.length ≤ 1000) :
    Calls Try.prog 18 #[.slice A fr.length c] w fun e w' => ∃ l : List Nat, l.length = 448 ∧ RetBytes 5 l w e w' := by
  obtain ⟨i0, hi0, hz0, hz1, hz2⟩ := info_parts u8_info
  go_enter Try.func18, Try.ntmps18
  go_wp2_with (at_make; refine wpList_make_full _ rfl _ _ 22 rfl w.heap.size 5 i0 _ 1 Try.underlying22 hi0 hz0 hz1 .i64 .i64 _ _ 448 rfl rfl rfl rfl (by rw [hz2]; omega) (by unfold maxLen; omega) (Nat.le_refl _) ?_; intro w1 hown1 hg1)
  have hb1 : Below w.heap.size w w1 := (Below.refl _ _).grown hg1 (Nat.le_refl _) (by simp)
  have hgt : w.heap.size < w1.heap.size := (hown1.lt w.heap.size rfl).2
  have hown2 : w1.ownsRow w.heap.size 5 1 (.slice (some ⟨w.heap.size, 0, none⟩) 448 448) 448 ((List.replicate 448 0).map byteV) := by
    have e : (madeCells (Value.int .u8 0).cells (448 * 1)).toList = (List.replicate 448 0).map byteV := by
      rw [Nat.mul_one, List.map_replicate]
      exact toList_madeCells_one _ 448
    rw [← e]
    exact hown1
  clear hown1 hg1
  have hat := h.below (hb1.mono hB)
  have hsm0 : Small (List.replicate 448 0) := fun x hx => by rw [(List.mem_replicate.1 hx).2]; omega
  go_loopw [4] (fun i wr => ∃ (j : Nat) (l : List Nat), j ≤ 448 ∧ i = .int .i64 j ∧ l.length = 448 ∧ Small l ∧ wr.ownsRow w.heap.size 5 1 (.slice (some ⟨w.heap.size, 0, none⟩) 448 448) 448 (l.map byteV) ∧ Below w.heap.size w wr) (fun i _ => 448 - (intOf i).toNat)
  case atStart => exact ⟨0, List.replicate 448 0, by omega, rfl, List.length_replicate .., hsm0, hown2, hb1⟩
  case round =>
    clear hown2 hb1 hat
    obtain ⟨j, l, hj, rfl, hll, hsm, hown, hb⟩ := hrel
    rcases Nat.lt_or_ge j 448 with hlt | hge
    · have hj4 : decide ((j : Int) < 448) = true := by rw [decide_eq_true_iff]; omega
      rcases Nat.eq_zero_or_pos fr.length with h0 | h0
      · have h00 : decide ((0 : Int) < (fr.length : Int)) = false := by rw [decide_eq_false_iff_not]; omega
        have ho := Lib.hid hown
        clear h hown
        generalize fr.length = n at *
        go_wp2
        go_roundw
        case rel => exact ⟨j + 1, l, by omega, by go_num, hll, hsm, ho.out, hb⟩
        case measure => simp [intOf]; omega
      · have h00 : decide ((0 : Int) < (fr.length : Int)) = true := by rw [decide_eq_true_iff]; omega
        have hat := h.below (hb.mono hB)
        obtain ⟨m, hm⟩ : ∃ m, j % fr.length = m := ⟨_, rfl⟩
        have hmn : m < fr.length := by rw [← hm]; exact Nat.mod_lt _ h0
        obtain ⟨b, o, rfl, hbB, q0, qx⟩ := hat.at_ (k := m) hmn
        generalize fr[m] = x at *
        have hz := hown.frozenAt j
        have hv0 : ∃ v0, wr.cell? ⟨w.heap.size, j, none⟩ = some v0 := by
          have := hown.cellAt j (by omega)
          rw [List.getElem?_eq_getElem (by rw [List.length_map]; omega)] at this
          exact ⟨_, this⟩
        obtain ⟨v0, hv0⟩ := hv0
        have hst := fun z => Lib.hid (hown.stored j (byteV z))
        have hbs : b < w.heap.size := Nat.lt_of_lt_of_le hbB hB
        have hmI : (j : Int) % (fr.length : Int) = (m : Int) := by rw [← hm]; omega
        have htm : Int.tmod (j : Int) (fr.length : Int) = (m : Int) := by rw [Int.tmod_eq_emod_of_nonneg (by omega)]; exact hmI
        have hn0 : (fr.length : Int) ≠ 0 := by omega
        have hm63 : (m : Int) < 9223372036854775808 := by omega
        have hn1 : ¬ fr.length = 0 := by omega
        have hjI : (j : Int) < 448 := by omega
        obtain ⟨d, hd⟩ : ∃ d, j / fr.length = d := ⟨_, rfl⟩
        have hdI : (j : Int) / (fr.length : Int) = (d : Int) := by rw [← hd]; omega
        have htd : Int.tdiv (j : Int) (fr.length : Int) = (d : Int) := by rw [Int.tdiv_eq_ediv_of_nonneg (by omega)]; exact hdI
        have hdle : d ≤ 448 := by rw [← hd]; exact Nat.le_trans (Nat.div_le_self _ _) (by omega)

        have HV := Lib.hid (page_val x d hdle)
        have hlt256 : (x + d) % 256 < 256 := Nat.mod_lt _ (by omega)
        have hmI2 : (m : Int) < (fr.length : Int) := by omega
        clear h hat hown
        generalize fr.length = n at *
        go_wp2_with fail
        go_region_held3 (fun w' => w'.cell? ⟨b, o + m, none⟩ = some (.int .u8 x)) (first | exact q0 | exact (World.cell?_setCell_other _ _ _ _ (by intro e; injection e with e; omega)).trans q0) (fail)
        rw [HV.out]
        have hst2 := hst ((x + d) % 256)
        go_wp2_with fail
        go_roundw
        case rel =>
          refine ⟨j + 1, l.set j ((x + d) % 256), by omega, by go_num, by rw [List.length_set]; exact hll, ?_, ?_, ?_⟩
          · intro y hy
            rcases List.mem_or_eq_of_mem_set hy with hy | rfl
            · exact hsm y hy
            · exact hlt256
          · rw [List.map_set]
            exact (hst2.out.1).drew
          · exact (hb.setCell (by exact Nat.le_refl _) _).drew
        case measure => simp [intOf]; omega
    · obtain rfl : j = 448 := by omega
      have hj4 : decide ((448 : Int) < 448) = false := rfl
      go_wp2
      go_ret
      exact ⟨l, hll, some ⟨w.heap.size, 0, none⟩, 448, ret_slice hll.symm, by rw [hll]; exact hown, hb, hsm⟩
end Go.Proofs.Ytkmfacmigonbcaa
