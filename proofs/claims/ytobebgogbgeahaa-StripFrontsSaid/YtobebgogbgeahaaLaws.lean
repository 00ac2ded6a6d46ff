/- The law StripLays, walked. Conditions: none beyond what the row says. -/
import Derived.Test.YtobebgogbgeahaaKnown
namespace Go.Proofs.Ytobebgogbgeahaa
open Go.ChangeShapes Go.WideShapes Go.ChangeAt Go.RowKit
set_option linter.unusedVariables false
set_option linter.unusedSimpArgs false
set_option maxRecDepth 20000

theorem Reads.more {w : World} {B B' : Nat} {L : List Value} {ls : List (List Nat)} (h : Reads w B L ls) (hB : B ≤ B') : Reads w B' L ls := ⟨h.1, fun j l hl => by
  obtain ⟨A, c, h1, h2, h3⟩ := h.2 j l hl
  exact ⟨A, c, h1, h2, h3.more hB⟩⟩

set_option maxHeartbeats 1000000 in
theorem stripLays_walk (a0 : Option Addr) (len0 cap0 : Nat) (z0 : List Int) (a1 : Int) (w : World) (w0 : IsRow .u8 w a0 len0 cap0 z0) (w1 : (Lit.int .i64 a1).wf = true) :
    Calls Try.prog 3 #[.slice a0 len0 cap0, .int .i64 a1] w fun e w' => e = .returned (.bool true) ∧ Below w.heap.size w w' := by
  obtain ⟨hlc, l, rfl, hl⟩ := w0.bytes
  clear w0 z0
  rcases Nat.lt_or_ge 2000 l.length with hlt | hge
  · have ht : decide ((2000 : Int) < (l.length : Int)) = true := by rw [decide_eq_true_iff]; omega
    go_enter Try.func3, Try.ntmps3
    go_wp2_with (go_at_call 8; refine (known_any _).mono ?_; rintro e w1 ⟨rfl, hb1⟩)
    go_ret
    exact ⟨rfl, hb1⟩
  have ht : decide ((2000 : Int) < (l.length : Int)) = false := by rw [decide_eq_false_iff_not]; omega
  go_enter Try.func3, Try.ntmps3
  go_wp2_with fail
  refine (known_any _).mono ?_
  rintro e w2 ⟨rfl, hb2⟩
  go_wp2_with fail
  have hl2 := hl.below hb2
  refine (lent_any _ _ l _ _ hl2 (by omega)).mono ?_
  rintro e w3 ⟨A3, c3, rfl, hown3, hb3⟩
  obtain ⟨_, _, e3, hc3, _⟩ := own_form hown3
  injection e3 with e3 e4 e5
  subst e3
  subst e5
  have hbw3 := hb2.trans (hb3.mono hb2.size)
  have ho3 := own_bytes hown3 hl.2
  clear hown3
  go_wp2_with fail
  refine (lay_any A3 l c3 w3.heap.size hc3 (by omega) w3 (Nat.le_refl _) ho3).mono ?_
  intro e w4 hret4
  obtain ⟨A4, c4, L4, rfl, -, -, hb4, hat4, hrd4⟩ := hret4.is
  have hbw4 := hbw3.trans (hb4.mono hbw3.size)
  clear hret4
  go_wp2_with fail
  refine (reflay_any _ _ l w.heap.size w4 (hl.below hbw4) hbw4.size (by omega)).mono ?_
  intro e w5 hret5
  obtain ⟨A5, c5, L5, rfl, -, -, hb5, hat5, hrd5⟩ := hret5.is
  have hbw5 := hbw4.trans (hb5.mono hbw4.size)
  have hat4' := (hat4.below hb5).more hb5.size
  have hrd4' := (hrd4.below hb5).more hb5.size
  have ho5 := ((ho3.below hb4).below (hb5.mono hb4.size))
  clear hret5 hat4 hrd4 hbw4 hbw3 ho3 hl2
  go_wp2_with fail
  refine (blocks_any A4 A5 c4 c5 L4 L5 _ _ w5.heap.size w5 hat4' hat5 hrd4' hrd5 (by rw [layOf_length]; have := chunks_le (l := l) (by omega); omega)).mono ?_
  rintro e w6 ⟨rfl, hd⟩
  have hbw6 := hbw5.trans (hd.below _)
  have ho6 := ho5.below (hd.below _)
  have hl6 := hl.below hbw6
  have hs6 := hd.size
  have h1 : decide (layOf l = layOf l) = true := by simp
  rw [h1]
  clear hat4' hat5 hrd4' hrd5 hbw5 ho5 hd h1
  go_wp2_with fail
  refine (count_any _ _ w1).mono ?_
  rintro e w7 ⟨rfl, rfl⟩
  go_wp2_with fail
  refine (refcount_any _ _ w1).mono ?_
  rintro e w7 ⟨rfl, rfl⟩
  have h1 : (countZ a1 == countZ a1) = true := by simp
  go_wp2_with fail
  refine (same_any A3 a0 c3 cap0 l l w6.heap.size _ (ho6.more ?_) (hl6.more hbw6.size)).mono ?_
  · exact Nat.le_trans (Nat.le_trans hb4.size hb5.size) (by rw [hs6]; exact Nat.le_refl _)
  rintro e w7 ⟨rfl, rfl⟩
  have h2 : decide (l = l) = true := by simp
  rw [h2]
  go_wp2
  go_ret
  exact ⟨rfl, hbw6⟩
end Go.Proofs.Ytobebgogbgeahaa
