/- The document's device: Image. Conditions: the device lies there. -/
import Derived.Test.YtnbbneldbagohaaRSync
namespace Go.Proofs.Ytnbbneldbagohaa
open Go.ChangeShapes Go.WideShapes Go.ChangeAt Go.RowKit
set_option linter.unusedVariables false
set_option linter.unusedSimpArgs false
set_option maxRecDepth 20000

section
variable {D : DevP} {w : World} {F : Nat → Prop} {p : Value} {gp : Nat} {s : Nat → Value} {lf : Int} {X : Nat → List Value}
set_option maxHeartbeats 1000000 in
theorem rimage_some (h : RAt D w F gp s lf X) {N : Nat} (hG : D.good N) {n : Nat} (hn : n < 2) :
    Calls Try.prog 49 #[.pointer (some ⟨gp, 0, none⟩), .int .u8 n] w (RetRows (D.image n) w) := by
  obtain ⟨i0, hi0, hz0, hz1, hz2⟩ := info_parts row_info
  obtain ⟨Aq, cq, es, -, -⟩ := own_form (h.file n hn).1
  have hc0 := h.cellF hn
  rw [es] at hc0
  have hgpl := h.blk.lt
  have hD : D.image n = (D.f n).map Sect.last := if_pos hn
  rw [hD]
  have hm2 := (hG n hn).1
  have hcell : ∀ k (hk : k < (D.f n).length), ∃ g lw, Aq = some ⟨g, 0, none⟩ ∧ g < w.heap.size ∧ w.cell? ⟨g, k * 2, none⟩ = some lw ∧ Txt w F lw (D.f n)[k].last := fun k hk => by
    obtain ⟨g, c', lw, wv, es', q0, q1, ht, hW, -, hg, -, -⟩ := h.toFilesAt.sector hn hk
    rw [es] at es'
    injection es' with e1 _ _
    rw [Nat.mul_comm 2 k] at q0
    exact ⟨g, lw, e1, hg, q0, ht⟩
  have h128 : ∀ k (hk : k < (D.f n).length), (D.f n)[k].last.length = 128 := fun k hk => (hG.at_ hn hk).1
  have hlt : decide ((1 : Int) < (n : Int)) = false := by rw [decide_eq_false_iff_not]; omega
  have e4 : (0 : Int) ≤ (n : Int) := by omega
  have e5 : (n : Int) < 2 := by omega
  clear h es hG hD
  generalize D.f n = ss at *
  go_enter Try.func49, Try.ntmps49
  go_wp2_with fail
  go_loopw [5, 6] (fun v i wr => ∃ (k : Nat) (L : List Value), k ≤ ss.length ∧ i = .int .i64 k ∧ wr.ownsRow w.heap.size 28 1 v k L ∧ Rows wr w.heap.size L ((ss.map Sect.last).take k) ∧ Below w.heap.size w wr) (fun _ i _ => ss.length - (intOf i).toNat)
  case atStart => exact ⟨0, [], by omega, rfl, World.ownsRow_nil _ _ _ _, by rw [List.take_zero]; exact Rows.nil _ _, Below.refl _ _⟩
  case round =>
    obtain ⟨k, L, hk, rfl, hown, hr, hb⟩ := hrel
    obtain ⟨A0, c0, rfl, -, -⟩ := own_form hown
    have hc1 := (hb.cell (p := ⟨gp, n, none⟩) hgpl).trans hc0
    rcases Nat.lt_or_ge k ss.length with hlt | hge
    · have e1 : decide ((k : Int) < (ss.length : Int)) = true := by rw [decide_eq_true_iff]; omega
      have e2 : (0 : Int) ≤ (k : Int) := by omega
      have e3 : (k : Int) < (ss.length : Int) := by omega
      obtain ⟨g, lw, rfl, hgw, q0, ht⟩ := hcell k hlt
      have hl := h128 k hlt
      have p0 := (hb.cell (p := ⟨g, k * 2, none⟩) hgw).trans q0
      have ht2 := ht.only (Only.of_below hb (fun _ => False)) fun _ _ _ z => z
      obtain ⟨A1, c1, rfl, hc1', hb1⟩ := ht2.bytes
      have htk : (ss.map Sect.last).take (k + 1) = (ss.map Sect.last).take k ++ [ss[k].last] := by rw [List.take_succ_eq_append_getElem (by simpa using hlt), List.getElem_map]
      generalize ss[k].last = x at *
      rw [hl] at p0
      have hcl := rlent_any A1 c1 x wr.heap.size wr hb1 (by omega)
      rw [hl] at hcl
      have HTK := Lib.hid htk
      have hwr := hb.size
      clear htk hcell h128 ht ht2 hb1 q0 hc0
      go_wp2_with fail
      refine hcl.mono ?_
      rintro e w2 ⟨A2, c2, rfl, ho2, hb2, hs2⟩
      rw [hl] at ho2 ⊢
      have hown2 := kept_none (below_none hb2) hown
      have hw2 := hb2.size
      clear hcl
      go_wp2_with (at_builtin; refine wpList_append_at2 rfl _ _ 22 22 rfl w.heap.size 28 i0 _ 24 Try.underlying22 Try.underlying22 hi0 hz0 hz1 hz2 rfl (.slice A0 k c0) k L rfl (hown2.alloc _) (w2.heap.size + 1) (some ⟨w2.heap.size, 0, none⟩) 1 1 [.slice A2 128 c2] rfl rfl (At.new w2 [.slice A2 128 c2] 28 (0, 0)) (by simp [Value.oneCell']) (by unfold maxLen; omega) (by omega) (by rw [World.size_alloc]; omega) ?_; intro A5 c5 w5 hown5 hg5 hat5; have HM := Lib.hid (rows_more hb hown hr hb2 ho2 hl hs2 hown5 hg5); have ho5 := Lib.hid hown5; clear hown5 hat5)
      go_roundw
      case rel => exact ⟨k + 1, _, by omega, by go_num, ho5.out, by rw [HTK.out]; exact HM.out.1, HM.out.2⟩
      case measure => simp [intOf]; omega
    · obtain rfl : k = ss.length := by omega
      have e1 : decide ((ss.length : Int) < (ss.length : Int)) = false := by rw [decide_eq_false_iff_not]; omega
      rw [List.take_of_length_le (by simp)] at hr
      clear hcell h128
      go_wp2
      go_ret
      exact ⟨A0, c0, L, ret_slice (by simp), by simpa using hown, hr, hb⟩
theorem rimage_any (h : IsRDev D w F p) {N : Nat} (hG : D.good N) (n : Nat) (hn : n < 256) :
    Calls Try.prog 49 #[p, .int .u8 n] w (RetRows (D.image n) w) := by
  obtain ⟨gp, s, lf, X, rfl, h⟩ := h
  by_cases hh : n < 2
  · exact rimage_some h hG hh
  · have hD : D.image n = [] := if_neg (by omega)
    rw [hD]
    have hlt : decide ((1 : Int) < (n : Int)) = true := by rw [decide_eq_true_iff]; omega
    clear h hD
    go_enter Try.func49, Try.ntmps49
    go_wp2
    go_ret
    exact ⟨none, 0, [], rfl, World.ownsRow_nil _ _ _ _, Rows.nil _ _, Below.refl _ _⟩
end
end Go.Proofs.Ytnbbneldbagohaa
