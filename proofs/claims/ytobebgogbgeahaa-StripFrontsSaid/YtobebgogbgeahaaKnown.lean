/- The contract of known; what a call that hands back lists gives. No conditions. -/
import Derived.Test.YtobebgogbgeahaaRefRead
namespace Go.Proofs.Ytobebgogbgeahaa
open Go.ChangeShapes Go.WideShapes Go.ChangeAt Go.RowKit
set_option linter.unusedVariables false
set_option linter.unusedSimpArgs false
set_option maxRecDepth 20000

theorem RetRows.is {ls : List (List Nat)} {w : World} {e : Ending} {w' : World} (h : RetRows ls w e w') : ∃ A c L, e = .returned (.slice A ls.length c) ∧ w'.ownsRow w.heap.size 22 1 (.slice A ls.length c) ls.length L ∧ Rows w' w.heap.size L ls ∧ Below w.heap.size w w' ∧ At w' w'.heap.size A L ∧ Reads w' w'.heap.size L ls := by
  obtain ⟨A, c, L, h1, h2, h3, h4⟩ := h
  exact ⟨A, c, L, h1, h2, h3, h4, At.own h2, h3.reads⟩

theorem lay_known : layOf (List.replicate 128 0) = [List.replicate 127 0 ++ [127], List.replicate 127 0 ++ [1]] := by rfl
theorem read_known : readL [List.replicate 127 0 ++ [127], List.replicate 127 0 ++ [1]] = List.replicate 128 0 := by rfl

/-- One of the lists: where it lies. -/
theorem reads_at {w : World} {B : Nat} {A : Option Addr} {L : List Value} {ls : List (List Nat)} (h1 : At w B A L) (h : Reads w B L ls) {k : Nat} (hk : k < ls.length) :
    ∃ b o A' c', A = some ⟨b, o, none⟩ ∧ b < B ∧ w.cell? ⟨b, o + k, none⟩ = some (.slice A' ls[k].length c') ∧ ls[k].length ≤ c' ∧ Bytes w B A' ls[k] := by
  obtain ⟨A1, c1, e1, hc1, b1⟩ := h.2 k _ (List.getElem?_eq_getElem hk)
  obtain ⟨b, o, e, hb, q⟩ := h1 k (by rw [h.1]; exact hk)
  rw [← List.getElem?_eq_getElem, e1] at q
  exact ⟨b, o, A1, c1, e, hb, q, hc1, b1⟩

set_option maxHeartbeats 2000000 in
theorem known_any (w : World) : Calls Try.prog 8 #[] w fun e w' => e = .returned (.bool true) ∧ Below w.heap.size w w' := by
  obtain ⟨i0, hi0, hz0, hz1, hz2⟩ := info_parts u8_info
  have hk1 := lay_known
  have hk2 := read_known
  have hk3 : ∀ x : Nat, (List.replicate 127 0 ++ [x]).length = 128 := fun x => by simp
  have hk4 : ∀ x : Nat, (List.replicate 127 0 ++ [x])[127]'(by simp) = x := fun x => by simp
  go_enter Try.func8, Try.ntmps8
  go_wp2_with (at_make; refine wpList_make_full _ rfl _ _ 22 rfl w.heap.size 5 i0 _ 1 Try.underlying22 hi0 hz0 hz1 .i64 .i64 _ _ 128 rfl rfl rfl rfl (by rw [hz2]; omega) (by unfold maxLen; omega) (Nat.le_refl _) ?_; intro w1 hown1 hg1)
  have hb1 : Below w.heap.size w w1 := (Below.refl _ _).grown hg1 (Nat.le_refl _) (by simp)
  have hrow : Bytes w1 w1.heap.size (some ⟨w.heap.size, 0, none⟩) (List.replicate 128 0) := by
    have e : (madeCells (Value.int .u8 0).cells (128 * 1)).toList = (List.replicate 128 0).map byteV := by
      rw [Nat.mul_one, List.map_replicate]
      exact toList_madeCells_one _ 128
    rw [e] at hown1
    exact own_bytes hown1 (fun x hx => by rw [(List.mem_replicate.1 hx).2]; omega)
  have hlay := lay_any (some ⟨w.heap.size, 0, none⟩) (List.replicate 128 0) 128 w1.heap.size (by simp) (by simp) w1 (Nat.le_refl _) hrow
  rw [lay_known, List.length_replicate] at hlay
  clear hown1 hg1 hk1
  refine hlay.mono ?_
  clear hlay hrow
  intro e w2 hret
  obtain ⟨A, c, L, rfl, hown, hr, hb2, hat, hrd⟩ := hret.is
  obtain ⟨b, o, A0, c0, rfl, hbB, q0, hc0, r0⟩ := reads_at hat hrd (k := 0) (by simp)
  obtain ⟨b', o', A1, c1, e1, -, q1, hc1, r1⟩ := reads_at hat hrd (k := 1) (by simp)
  injection e1 with e1
  injection e1 with e1 e2
  subst e1
  subst e2
  have hread := read_any (some ⟨b, o, none⟩) c L _ _ w2 hat hrd (Nat.le_refl _) (by simp)
  rw [hk2] at hread
  simp only [List.getElem_cons_zero, List.getElem_cons_succ, hk3] at q0 q1 r0 r1 hc0 hc1
  obtain ⟨b0, o0, rfl, -, p0, -⟩ := r0.at_ (k := 127) (by simp)
  obtain ⟨b1, o1, rfl, -, p1, -⟩ := r1.at_ (k := 127) (by simp)
  rw [hk4] at p0 p1
  have hcnt := fun W => count_any 128 W (by decide)
  rw [show countZ 128 = 2 by decide] at hcnt
  clear hret hown hr hat hrd r0 r1 hk2 hk3 hk4
  generalize List.replicate 127 0 ++ [127] = s0 at *
  generalize List.replicate 127 0 ++ [1] = s1 at *
  simp only [List.length_cons, List.length_nil, Nat.zero_add, Nat.reduceAdd] at hread ⊢
  rw [Nat.add_zero] at q0
  have hbw := hb1.trans (hb2.mono hb1.size)
  clear hb1 hb2
  go_wp2_with fail
  refine hread.mono ?_
  clear hread
  rintro e w3 ⟨A3, c3, rfl, hown3, hb3, -⟩
  rw [List.length_replicate] at hown3 ⊢
  have hbw3 := hbw.trans (hb3.mono hbw.size)
  clear hown3 hbw hb3
  go_wp2_with fail
  refine (hcnt _).mono ?_
  rintro e w4 ⟨rfl, rfl⟩
  clear hcnt
  go_wp2
  go_ret
  exact ⟨rfl, hbw3⟩
end Go.Proofs.Ytobebgogbgeahaa
