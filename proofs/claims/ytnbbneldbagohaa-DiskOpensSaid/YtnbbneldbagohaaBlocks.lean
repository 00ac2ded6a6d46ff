/- The contracts of SameBlocks and Sectors. Conditions: what is handed in reads as bytes. -/
import Derived.Test.YtnbbneldbagohaaRef
import Derived.Test.YtnbbneldbagohaaBrows
import Derived.Deep.QuietTactic
import Derived.BigQuiet
namespace Go.Proofs.Ytnbbneldbagohaa
open Go.ChangeShapes Go.WideShapes Go.ChangeAt Go.RowKit
set_option linter.unusedVariables false
set_option linter.unusedSimpArgs false
set_option maxRecDepth 20000

theorem strB_bne {l m : List Nat} (hl : Small l) (hm : Small m) : ((strB l).toList != (strB m).toList) = !decide (l = m) := by
  rw [bne, strB_beq hl hm]

set_option maxHeartbeats 2000000 in
theorem blocks_any (A A' : Option Addr) (c c' : Nat) (L L' : List Value) (ls ms : List (List Nat)) (B : Nat) (w : World) (h1 : At w B A L) (h2 : At w B A' L') (hr : Reads w B L ls) (hr' : Reads w B L' ms) (hn : ls.length ≤ 100000) :
    Calls Try.prog 19 #[.slice A ls.length c, .slice A' ms.length c'] w fun e w' => e = .returned (.bool (decide (ls = ms))) ∧ Drew w w' := by
  by_cases hlen : ls.length = ms.length
  · have hl1 : ((ls.length : Int) != (ms.length : Int)) = false := by rw [hlen]; simp
    go_enter Try.func19, Try.ntmps19
    go_wp2_with fail
    go_loopw [5] (fun i wr => ∃ k : Nat, k ≤ ls.length ∧ i = .int .i64 k ∧ ls.take k = ms.take k ∧ Drew w wr) (fun i _ => ls.length - (intOf i).toNat)
    case atStart => exact ⟨0, Nat.zero_le _, rfl, rfl, Drew.refl _⟩
    case round =>
      obtain ⟨k, hk, rfl, heq, hd⟩ := hrel
      rcases Nat.lt_or_ge k ls.length with hlt | hge
      · have hlt' : k < ms.length := by omega
        obtain ⟨A1, c1, e1, _, b1⟩ := hr.2 k _ (List.getElem?_eq_getElem hlt)
        obtain ⟨A2, c2, e2, _, b2⟩ := hr'.2 k _ (List.getElem?_eq_getElem hlt')
        obtain ⟨b, o, rfl, _, q1⟩ := h1 k (by rw [hr.1]; exact hlt)
        obtain ⟨b', o', rfl, _, q2⟩ := h2 k (by rw [hr'.1]; exact hlt')
        rw [← List.getElem?_eq_getElem, e1] at q1
        rw [← List.getElem?_eq_getElem, e2] at q2
        have p1 : wr.cell? ⟨b, o + k, none⟩ = some (.slice A1 ls[k].length c1) := by obtain ⟨m, rfl⟩ := hd; exact q1
        have p2 : wr.cell? ⟨b', o' + k, none⟩ = some (.slice A2 ms[k].length c2) := by obtain ⟨m, rfl⟩ := hd; exact q2
        have s1 := (b1.below (hd.below B))
        have s2 := (b2.below (hd.below B))
        have hbn := strB_bne s1.2 s2.2
        have t1 := List.take_succ_eq_append_getElem hlt
        have t2 := List.take_succ_eq_append_getElem hlt'
        have r1 := fun n => run_bytes_str (P := Try.prog) (w := wr.drewN n) (s1 : Bytes (wr.drewN n) B A1 ls[k]) 28 9 5 Try.underlying28 Try.underlying5 Try.underlying9 c1
        have r2 := fun n => run_bytes_str (P := Try.prog) (w := wr.drewN n) (s2 : Bytes (wr.drewN n) B A2 ms[k]) 28 9 5 Try.underlying28 Try.underlying5 Try.underlying9 c2
        clear e1 e2 q1 q2 h1 h2 hr hr' b1 b2 s1 s2
        have hx : ls[k] = ms[k] → ls.take (k + 1) = ms.take (k + 1) := fun e => by rw [t1, t2, heq, e]
        have hy : ls[k] ≠ ms[k] → ls ≠ ms := fun hne e => by subst e; exact hne rfl
        clear t1 t2 heq
        generalize ls[k] = x at *
        generalize ms[k] = y at *
        have hx := Lib.hid hx
        have hy := Lib.hid hy
        by_cases hxy : x = y
        · have hbn2 : ((strB x).toList != (strB y).toList) = false := by rw [hbn]; simp [hxy]
          have hbn3 : ((strB x).toList == (strB y).toList) = true := by rw [hxy]; simp
          have H := Lib.hid hxy
          clear hbn hxy
          go_wp2_with fail
          go_quiet (fail)
          generalize hwq : World.drewN _ _ = w2
          have hd2 : Drew w w2 := by rw [← hwq]; exact hd.more _
          clear hwq r1 r2 p1 p2
          go_wp2
          go_roundw
          case rel => exact ⟨k + 1, by omega, by go_num, hx.out H.out, hd2⟩
          case measure => simp [intOf]; omega
        · have hbn2 : ((strB x).toList != (strB y).toList) = true := by rw [hbn]; simp [hxy]
          have hbn3 : ((strB x).toList == (strB y).toList) = false := by rw [bne] at hbn2; simpa using hbn2
          have H := Lib.hid hxy
          clear hbn hxy
          go_wp2_with fail
          go_quiet (fail)
          generalize hwq : World.drewN _ _ = w2
          have hd2 : Drew w w2 := by rw [← hwq]; exact hd.more _
          clear hwq r1 r2 p1 p2
          go_wp2
          go_ret
          exact ⟨ret_bool (by rw [eq_comm, decide_eq_false_iff_not]; exact hy.out H.out), hd2⟩
      · have hk2 : k = ls.length := by omega
        subst hk2
        have H : ls = ms := by rwa [List.take_length, hlen, List.take_length] at heq
        have HH := Lib.hid H
        clear H heq h1 h2 hr hr'
        go_wp2
        go_ret
        exact ⟨ret_bool (by rw [eq_comm, decide_eq_true_iff]; exact HH.out), hd⟩
  · have hne : decide (ls = ms) = false := by rw [decide_eq_false_iff_not]; exact fun e => hlen (by rw [e])
    have hl1 : ((ls.length : Int) != (ms.length : Int)) = true := by simp; omega
    rw [hne]
    go_enter Try.func19, Try.ntmps19
    go_wp2
    go_ret
    exact ⟨rfl, Drew.refl _⟩
/-- not more than m lists, none longer than 200 -/
def sectB (ls : List (List Nat)) (m : Nat) : Bool := decide (ls.length ≤ m) && ls.all fun l => decide (l.length ≤ 200)
theorem sectB_le {ls : List (List Nat)} {m : Nat} (h : sectB ls m = true) : ls.length ≤ m ∧ ∀ l ∈ ls, l.length ≤ 200 := by
  unfold sectB at h
  rw [Bool.and_eq_true, decide_eq_true_iff, List.all_eq_true] at h
  exact ⟨h.1, fun l hl => by simpa using h.2 l hl⟩
theorem sectB_no {ls : List (List Nat)} {m k : Nat} (hk : k < ls.length) (h : ¬ ls[k].length ≤ 200) : sectB ls m = false := by
  rw [Bool.eq_false_iff]
  intro e
  exact h ((sectB_le e).2 _ (List.getElem_mem hk))
set_option maxHeartbeats 1000000 in
theorem sectors_any (A : Option Addr) (c : Nat) (L : List Value) (ls : List (List Nat)) (B : Nat) (w : World) (h1 : At w B A L) (hr : Reads w B L ls) (m : Nat) (hm : m ≤ 1000) :
    Calls Try.prog 28 #[.slice A ls.length c, .int .i64 m] w fun e w' => e = .returned (.bool (sectB ls m)) ∧ w = w' := by
  rcases Nat.lt_or_ge m ls.length with hlt | hge
  · have ht : decide ((m : Int) < (ls.length : Int)) = true := by rw [decide_eq_true_iff]; omega
    have e : sectB ls m = false := by unfold sectB; rw [decide_eq_false (by omega), Bool.false_and]
    rw [e]
    go_enter Try.func28, Try.ntmps28
    go_wp2
    go_ret
    exact ⟨rfl, rfl⟩
  · have ht : decide ((m : Int) < (ls.length : Int)) = false := by rw [decide_eq_false_iff_not]; omega
    go_enter Try.func28, Try.ntmps28
    go_wp2_with fail
    go_loop [5] (fun i => ∃ k : Nat, k ≤ ls.length ∧ i = .int .i64 k ∧ ∀ j (h : j < ls.length), j < k → ls[j].length ≤ 200) (fun i => ls.length - (intOf i).toNat)
    case atStart => exact ⟨0, Nat.zero_le _, rfl, fun _ _ h => absurd h (by omega)⟩
    case round =>
      obtain ⟨k, hk, rfl, hall⟩ := hrel
      rcases Nat.lt_or_ge k ls.length with hlt | hge
      · have hk1 : decide ((k : Int) < (ls.length : Int)) = true := by rw [decide_eq_true_iff]; omega
        obtain ⟨A1, c1, e1, _, b1⟩ := hr.2 k _ (List.getElem?_eq_getElem hlt)
        obtain ⟨b, o, rfl, _, q1⟩ := h1 k (by rw [hr.1]; exact hlt)
        rw [← List.getElem?_eq_getElem, e1] at q1
        clear e1 h1 hr b1
        have hx : ls[k].length ≤ 200 → ∀ j (h : j < ls.length), j < k + 1 → ls[j].length ≤ 200 := fun hh j h hj => by
          rcases Nat.lt_or_ge j k with q | q
          · exact hall j h q
          · obtain rfl : j = k := by omega
            exact hh
        have hy := fun (hh : ¬ ls[k].length ≤ 200) => sectB_no (m := m) hlt hh
        generalize ls[k] = s at *
        have hx := Lib.hid hx
        have hy := Lib.hid hy
        clear hall
        by_cases hs : s.length ≤ 200
        · have ht2 : decide ((200 : Int) < (s.length : Int)) = false := by rw [decide_eq_false_iff_not]; omega
          go_wp2
          go_round
          case rel => exact ⟨k + 1, by omega, by go_num, hx.out hs⟩
          case measure => simp [intOf]; omega
        · have ht2 : decide ((200 : Int) < (s.length : Int)) = true := by rw [decide_eq_true_iff]; omega
          go_wp2
          go_ret
          exact ⟨by first | rfl | exact ret_bool (hy.out hs).symm, rfl⟩
      · obtain rfl : k = ls.length := by omega
        have hk1 : decide ((ls.length : Int) < (ls.length : Int)) = false := by rw [decide_eq_false_iff_not]; omega
        have e : sectB ls m = true := by
          unfold sectB
          rw [decide_eq_true (by omega), Bool.true_and, List.all_eq_true]
          intro l hl
          obtain ⟨j, hj, rfl⟩ := List.mem_iff_getElem.1 hl
          simpa using hall j hj hj
        have HE := Lib.hid e
        clear e hall h1 hr
        go_wp2
        go_ret
        exact ⟨by first | rfl | exact ret_bool HE.out.symm, rfl⟩

end Go.Proofs.Ytnbbneldbagohaa
