/- The contract of the document's Read: by program out of strip.Read's. Conditions: up to 1100 sectors. -/
import Derived.Test.YtobebgogbgeahaaRead
namespace Go.Proofs.Ytobebgogbgeahaa
open Go.ChangeShapes Go.WideShapes Go.ChangeAt Go.RowKit
set_option linter.unusedVariables false
set_option linter.unusedSimpArgs false
set_option maxRecDepth 20000

set_option maxHeartbeats 4000000 in
theorem refread_any (A : Option Addr) (c : Nat) (L : List Value) (ls : List (List Nat)) (B : Nat) (w : World) (h1 : At w B A L) (hr : Reads w B L ls) (hB : B ≤ w.heap.size) (hn : ls.length ≤ 1100) :
    Calls Try.prog 18 #[.slice A ls.length c] w (RetBytes 5 (readL ls) w) := by
  obtain ⟨i0, hi0, hz0, hz1, hz2⟩ := info_parts u8_info
  have hsm := readL_small ls (fun l hl => by
    obtain ⟨j, hj, rfl⟩ := List.mem_iff_getElem.1 hl
    obtain ⟨A1, c1, _, _, b1⟩ := hr.2 j _ (List.getElem?_eq_getElem hj)
    exact b1.2)
  have fin : ∀ (l : List Nat), readL ls = l → ∀ (A0 : Option Addr) (c0 : Nat) {w' : World}, w'.ownsRow w.heap.size 5 1 (.slice A0 l.length c0) l.length (l.map byteV) → Below w.heap.size w w' → RetBytes 5 (readL ls) w (.returned (.slice A0 l.length c0)) w' := fun l e A0 c0 w' ho hb => by
    rw [e]
    exact ⟨A0, c0, rfl, ho, hb, by rw [← e]; exact hsm⟩
  go_enter Try.func18, Try.ntmps18
  go_wp2_with fail
  go_loopw [3, 4] (fun v i wr => ∃ (k : Nat) (l : List Nat), k ≤ ls.length ∧ i = .int .i64 k ∧ readL ls = l ++ readL (ls.drop k) ∧ l.length ≤ 127 * k ∧ wr.ownsRow w.heap.size 5 1 v l.length (l.map byteV) ∧ Below w.heap.size w wr) (fun _ i _ => ls.length - (intOf i).toNat)
  case atStart => exact ⟨0, [], by omega, rfl, rfl, by simp, World.ownsRow_nil _ _ _ _, Below.refl _ _⟩
  case round =>
    obtain ⟨k, l, hk, rfl, heq, hll, hown, hb⟩ := hrel
    obtain ⟨A0, c0, rfl, -, -⟩ := own_form hown
    rcases Nat.lt_or_ge k ls.length with hlt | hge
    · have ht : decide ((k : Int) < (ls.length : Int)) = true := by rw [decide_eq_true_iff]; omega
      obtain ⟨A1, c1, e1, hc1, b1⟩ := hr.2 k _ (List.getElem?_eq_getElem hlt)
      obtain ⟨b, o, rfl, hbB, q1⟩ := h1 k (by rw [hr.1]; exact hlt)
      rw [← List.getElem?_eq_getElem, e1] at q1
      have p1 := ((hb.mono hB).cell (p := ⟨b, o + k, none⟩) hbB).trans q1
      have s1 := b1.below (hb.mono hB)
      rw [readL_drop hlt] at heq
      clear q1 e1 h1 hr b1
      generalize hss : ls[k] = s at *
      by_cases hs : s.length = 128
      · have ht2 : ((s.length : Int) != 128) = false := by rw [hs]; rfl
        obtain ⟨b2, o2, rfl, hb2, hc2, hy⟩ := s1.at_ (k := 127) (by omega)
        have hlast : last s = s[127] := by unfold last; rw [List.getElem?_eq_getElem (by omega)]; rfl
        generalize s[127] = y at *
        rw [hlast] at heq
        rw [if_neg (by simp [hs])] at heq
        have hs1 : (s.length : Int) = 128 := by omega
        by_cases hy1 : 127 < y
        · have ht3 : decide ((127 : Int) < (y : Int)) = true := by rw [decide_eq_true_iff]; omega
          rw [if_pos hy1, List.append_nil] at heq
          have HE := Lib.hid heq
          clear heq hlast s1 hsm
          go_wp2
          go_ret
          exact fin _ HE.out A0 c0 hown hb
        · have ht3 : decide ((127 : Int) < (y : Int)) = false := by rw [decide_eq_false_iff_not]; omega
          rw [if_neg hy1] at heq
          have hy2 : y ≤ c1 := by omega
          have hlen : (l ++ s.take y).length = l.length + y := by simp; omega
          have hlen2 : (s.take y).length = y := by simp; omega
          have hT := (s1.take y).1
          have HE := Lib.hid heq
          have HL := Lib.hid hlen
          clear heq hlast s1 hsm hlen
          by_cases hy3 : y < 127
          · have ht4 : decide ((y : Int) < 127) = true := by rw [decide_eq_true_iff]; omega
            go_wp2_with (at_builtin; refine wpList_append_at rfl _ _ 22 rfl w.heap.size 5 i0 _ 1 Try.underlying22 hi0 hz0 hz1 hz2 rfl (.slice A0 l.length c0) l.length (l.map byteV) rfl hown B (some ⟨b2, o2, none⟩) y c1 ((s.take y).map byteV) rfl (by rw [List.length_map]; exact hlen2) hT (bytes_oneCell _) (by unfold maxLen; omega) (by omega) hb.size ?_; intro A3 c3 w3 hown3 hg3 hat3)
            go_ret
            have hE := HE.out
            rw [if_pos hy3] at hE
            rw [← HL.out] at hown3
            rw [← List.map_append] at hown3
            have := fin _ hE A3 c3 hown3 (below_own hb hg3 hown (Nat.le_refl _) hb.size)
            rwa [HL.out] at this
          · have ht4 : decide ((y : Int) < 127) = false := by rw [decide_eq_false_iff_not]; omega
            go_wp2_with (at_builtin; refine wpList_append_at rfl _ _ 22 rfl w.heap.size 5 i0 _ 1 Try.underlying22 hi0 hz0 hz1 hz2 rfl (.slice A0 l.length c0) l.length (l.map byteV) rfl hown B (some ⟨b2, o2, none⟩) y c1 ((s.take y).map byteV) rfl (by rw [List.length_map]; exact hlen2) hT (bytes_oneCell _) (by unfold maxLen; omega) (by omega) hb.size ?_; intro A3 c3 w3 hown3 hg3 hat3)
            go_roundw
            case rel =>
              have hE := HE.out
              rw [if_neg hy3, ← List.append_assoc] at hE
              refine ⟨k + 1, l ++ s.take y, by omega, by go_num, hE, by rw [HL.out]; omega, ?_, below_own hb hg3 hown (Nat.le_refl _) hb.size⟩
              rw [HL.out, List.map_append]
              exact hown3
            case measure => simp [intOf]; omega
      · have ht2 : ((s.length : Int) != 128) = true := by simp; omega
        rw [if_pos hs, List.append_nil] at heq
        have HE := Lib.hid heq
        clear heq s1 hsm
        go_wp2
        go_ret
        exact fin _ HE.out A0 c0 hown hb
    · obtain rfl : k = ls.length := by omega
      have ht : decide ((ls.length : Int) < (ls.length : Int)) = false := by rw [decide_eq_false_iff_not]; omega
      rw [List.drop_length, readL, List.append_nil] at heq
      clear h1 hr
      go_wp2
      go_ret
      exact fin _ heq A0 c0 hown hb
end Go.Proofs.Ytobebgogbgeahaa
