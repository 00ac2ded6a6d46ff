/- The law StripReads, walked. Conditions: none beyond what the row says. -/
import Derived.Test.YtobebgogbgeahaaLaws
import Derived.Test.YtobebgogbgeahaaArgs
import Derived.Test.YtobebgogbgeahaaRefRead
namespace Go.Proofs.Ytobebgogbgeahaa
open Go.ChangeShapes Go.WideShapes Go.ChangeAt Go.RowKit
set_option linter.unusedVariables false
set_option linter.unusedSimpArgs false
set_option maxRecDepth 20000

/-- not more than m lists, none longer than 200 -/
def sectB (ls : List (List Nat)) (m : Nat) : Bool := decide (ls.length ≤ m) && ls.all fun l => decide (l.length ≤ 200)
theorem sectB_le {ls : List (List Nat)} {m : Nat} (h : sectB ls m = true) : ls.length ≤ m ∧ ∀ l ∈ ls, l.length ≤ 200 := by
  unfold sectB at h
  rw [Bool.and_eq_true, decide_eq_true_iff, List.all_eq_true] at h
  exact ⟨h.1, fun l hl => by simpa using h.2 l hl⟩
theorem sectB_no {ls : List (List Nat)} {m k : Nat} (hk : k < ls.length) (h : ¬ ls[k].length ≤ 200) : sectB ls m = false := by
  rw [Bool.eq_false_iff]
  intro e
  exact h ((sectB_le e).2 _ (List.getElem_mem hk))
set_option maxHeartbeats 1000000 in
theorem sectors_any (A : Option Addr) (c : Nat) (L : List Value) (ls : List (List Nat)) (B : Nat) (w : World) (h1 : At w B A L) (hr : Reads w B L ls) (m : Nat) (hm : m ≤ 1000) :
    Calls Try.prog 16 #[.slice A ls.length c, .int .i64 m] w fun e w' => e = .returned (.bool (sectB ls m)) ∧ w = w' := by
  rcases Nat.lt_or_ge m ls.length with hlt | hge
  · have ht : decide ((m : Int) < (ls.length : Int)) = true := by rw [decide_eq_true_iff]; omega
    have e : sectB ls m = false := by unfold sectB; rw [decide_eq_false (by omega), Bool.false_and]
    rw [e]
    go_enter Try.func16, Try.ntmps16
    go_wp2
    go_ret
    exact ⟨rfl, rfl⟩
  · have ht : decide ((m : Int) < (ls.length : Int)) = false := by rw [decide_eq_false_iff_not]; omega
    go_enter Try.func16, Try.ntmps16
    go_wp2_with fail
    go_loop [5] (fun i => ∃ k : Nat, k ≤ ls.length ∧ i = .int .i64 k ∧ ∀ j (h : j < ls.length), j < k → ls[j].length ≤ 200) (fun i => ls.length - (intOf i).toNat)
    case atStart => exact ⟨0, Nat.zero_le _, rfl, fun _ _ h => absurd h (by omega)⟩
    case round =>
      obtain ⟨k, hk, rfl, hall⟩ := hrel
      rcases Nat.lt_or_ge k ls.length with hlt | hge
      · have hk1 : decide ((k : Int) < (ls.length : Int)) = true := by rw [decide_eq_true_iff]; omega
        obtain ⟨A1, c1, e1, _, b1⟩ := hr.2 k _ (List.getElem?_eq_getElem hlt)
        obtain ⟨b, o, rfl, _, q1⟩ := h1 k (by rw [hr.1]; exact hlt)
        rw [← List.getElem?_eq_getElem, e1] at q1
        clear e1 h1 hr b1
        have hx : ls[k].length ≤ 200 → ∀ j (h : j < ls.length), j < k + 1 → ls[j].length ≤ 200 := fun hh j h hj => by
          rcases Nat.lt_or_ge j k with q | q
          · exact hall j h q
          · obtain rfl : j = k := by omega
            exact hh
        have hy := fun (hh : ¬ ls[k].length ≤ 200) => sectB_no (m := m) hlt hh
        generalize ls[k] = s at *
        have hx := Lib.hid hx
        have hy := Lib.hid hy
        clear hall
        by_cases hs : s.length ≤ 200
        · have ht2 : decide ((200 : Int) < (s.length : Int)) = false := by rw [decide_eq_false_iff_not]; omega
          go_wp2
          go_round
          case rel => exact ⟨k + 1, by omega, by go_num, hx.out hs⟩
          case measure => simp [intOf]; omega
        · have ht2 : decide ((200 : Int) < (s.length : Int)) = true := by rw [decide_eq_true_iff]; omega
          go_wp2
          go_ret
          exact ⟨by first | rfl | exact ret_bool (hy.out hs).symm, rfl⟩
      · obtain rfl : k = ls.length := by omega
        have hk1 : decide ((ls.length : Int) < (ls.length : Int)) = false := by rw [decide_eq_false_iff_not]; omega
        have e : sectB ls m = true := by
          unfold sectB
          rw [decide_eq_true (by omega), Bool.true_and, List.all_eq_true]
          intro l hl
          obtain ⟨j, hj, rfl⟩ := List.mem_iff_getElem.1 hl
          simpa using hall j hj hj
        have HE := Lib.hid e
        clear e hall h1 hr
        go_wp2
        go_ret
        exact ⟨by first | rfl | exact ret_bool HE.out.symm, rfl⟩

set_option maxHeartbeats 1000000 in
theorem stripReads_walk (v0 : Value) (w : World) (w0 : IsBlocks w v0) :
    Calls Try.prog 4 #[v0] w fun e w' => e = .returned (.bool true) ∧ Below w.heap.size w w' := by
  obtain ⟨A, c, L, ls, rfl, hlc, hcm, hat, hr⟩ := w0
  have hsec := sectors_any A c L ls _ w hat hr 40 (by omega)
  by_cases hs : sectB ls 40 = true
  · have hle := (sectB_le hs).1
    rw [hs] at hsec
    clear hs
    go_enter Try.func4, Try.ntmps4
    go_wp2_with fail
    refine hsec.mono ?_
    clear hsec
    rintro e w1 ⟨rfl, rfl⟩
    go_wp2_with fail
    refine (known_any _).mono ?_
    rintro e w2 ⟨rfl, hb2⟩
    go_wp2_with fail
    refine (read_any A c L ls w.heap.size w2 (fun j hj => by obtain ⟨b, o, e, h1, h2⟩ := hat j hj; exact ⟨b, o, e, h1, (hb2.cell (p := ⟨b, o + j, none⟩) h1).trans h2⟩) (hr.below hb2) hb2.size (by omega)).mono ?_
    intro e w3 hret3
    obtain ⟨A3, c3, rfl, hown3, hb3, hx3⟩ := hret3.is
    have hbw3 := hb2.trans (hb3.mono hb2.size)
    clear hret3 hown3
    go_wp2_with fail
    refine (refread_any A c L ls w.heap.size w3 (hat.below hbw3) (hr.below hbw3) hbw3.size (by omega)).mono ?_
    intro e w4 hret4
    obtain ⟨A4, c4, rfl, hown4, hb4, hx4⟩ := hret4.is
    have hbw4 := hbw3.trans (hb4.mono hbw3.size)
    clear hret4 hown4
    go_wp2_with fail
    refine (same_any A3 A4 c3 c4 _ _ w4.heap.size w4 ((hx3.below hb4).more hb4.size) hx4).mono ?_
    rintro e w5 ⟨rfl, rfl⟩
    rw [decide_eq_true rfl]
    go_wp2
    go_ret
    exact ⟨rfl, hbw4⟩
  · rw [Bool.not_eq_true] at hs
    rw [hs] at hsec
    clear hs
    go_enter Try.func4, Try.ntmps4
    go_wp2_with fail
    refine hsec.mono ?_
    clear hsec
    rintro e w1 ⟨rfl, rfl⟩
    go_wp2_with fail
    refine (known_any _).mono ?_
    rintro e w2 ⟨rfl, hb2⟩
    go_wp2
    go_ret
    exact ⟨rfl, hb2⟩
end Go.Proofs.Ytobebgogbgeahaa
