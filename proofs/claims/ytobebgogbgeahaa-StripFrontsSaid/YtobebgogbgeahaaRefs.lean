/- The contracts of Count (both), SameBlocks, Sectors, of the document's Sector. Conditions: what is handed in reads as bytes. -/
import Derived.Test.YtobebgogbgeahaaLay
import Derived.Deep.QuietTactic
import Derived.BigQuiet
namespace Go.Proofs.Ytobebgogbgeahaa
open Go.ChangeShapes Go.WideShapes Go.ChangeAt Go.RowKit
set_option linter.unusedVariables false
set_option linter.unusedSimpArgs false
set_option maxRecDepth 20000

/-- Values that are slices which read as these lists. -/
def Reads (w : World) (B : Nat) (L : List Value) (ls : List (List Nat)) : Prop := L.length = ls.length ∧ ∀ (j : Nat) (l : List Nat), ls[j]? = some l → ∃ A c, L[j]? = some (.slice A l.length c) ∧ l.length ≤ c ∧ Bytes w B A l
theorem Reads.below {w w' : World} {B : Nat} {L : List Value} {ls : List (List Nat)} (h : Reads w B L ls) (hb : Below B w w') : Reads w' B L ls := ⟨h.1, fun j l hl => by
  obtain ⟨A, c, h1, h2, h3⟩ := h.2 j l hl
  exact ⟨A, c, h1, h2, h3.below hb⟩⟩
theorem Rows.reads {w : World} {base : Nat} {L : List Value} {ls : List (List Nat)} (h : Rows w base L ls) : Reads w w.heap.size L ls := ⟨h.1, fun j l hl => by
  have hj : j < L.length := by
    rw [h.1]
    exact (List.getElem?_eq_some_iff.1 hl).1
  obtain ⟨⟨A, c, e⟩, h2, h3⟩ := h.2 j _ l (List.getElem?_eq_getElem hj) hl
  rw [e] at h2
  obtain ⟨A', c', e', hc, _⟩ := own_form h2
  injection e' with e1 e2 e3
  exact ⟨A, c, by rw [List.getElem?_eq_getElem hj, e], by omega, own_bytes h2 h3⟩⟩

def countZ (n : Int) : Int := if n ≤ 0 then 0 else (n - 1) / 127 + 1
theorem count_any (n : Int) (w : World) (hn : (Lit.int .i64 n).wf = true) : Calls Try.prog 13 #[.int .i64 n] w fun e w' => e = .returned (.int .i64 (countZ n)) ∧ w = w' := by
  have hb := bounds_i64 hn
  rcases (show 0 < n ∨ n ≤ 0 by omega) with h | h
  · have ht : decide (n ≤ 0) = false := by rw [decide_eq_false_iff_not]; omega
    have hd : (n - 1).tdiv 127 = (n - 1) / 127 := Int.tdiv_eq_ediv_of_nonneg (by omega)
    obtain ⟨q, hq⟩ : ∃ q, (n - 1) / 127 = q := ⟨_, rfl⟩
    have hq1 : 0 ≤ q ∧ q ≤ 9223372036854775807 / 2 := by omega
    have he : countZ n = q + 1 := by unfold countZ; rw [if_neg (by omega), hq]
    rw [he]
    go_enter Try.func13, Try.ntmps13
    go_wp2
    go_ret
    exact ⟨ret_int (by omega), rfl⟩
  · have ht : decide (n ≤ 0) = true := by rw [decide_eq_true_iff]; omega
    have he : countZ n = 0 := by unfold countZ; rw [if_pos (by omega)]
    rw [he]
    go_enter Try.func13, Try.ntmps13
    go_wp2
    go_ret
    exact ⟨rfl, rfl⟩
theorem refcount_any (n : Int) (w : World) (hn : (Lit.int .i64 n).wf = true) : Calls Try.prog 14 #[.int .i64 n] w fun e w' => e = .returned (.int .i64 (countZ n)) ∧ w = w' := by
  have hb := bounds_i64 hn
  rcases (show 0 < n ∨ n ≤ 0 by omega) with h | h
  · have ht : decide (n ≤ 0) = false := by rw [decide_eq_false_iff_not]; omega
    have hd : n.tdiv 127 = n / 127 := Int.tdiv_eq_ediv_of_nonneg (by omega)
    have hm : n.tmod 127 = n % 127 := Int.tmod_eq_emod_of_nonneg (by omega)
    obtain ⟨q, hq⟩ : ∃ q, n / 127 = q := ⟨_, rfl⟩
    obtain ⟨r, hr⟩ : ∃ r, n % 127 = r := ⟨_, rfl⟩
    have hq1 : 0 ≤ q ∧ q ≤ 9223372036854775807 / 2 := by omega
    have he : countZ n = if 0 < r then q + 1 else q := by unfold countZ; rw [if_neg (by omega)]; split <;> omega
    rw [he]
    rcases (show 0 < r ∨ r ≤ 0 by omega) with hr0 | hr0
    · rw [if_pos hr0]
      have ht2 : decide (0 < r) = true := by rw [decide_eq_true_iff]; omega
      go_enter Try.func14, Try.ntmps14
      go_wp2
      go_ret
      exact ⟨ret_int (by omega), rfl⟩
    · rw [if_neg (by omega)]
      have ht2 : decide (0 < r) = false := by rw [decide_eq_false_iff_not]; omega
      go_enter Try.func14, Try.ntmps14
      go_wp2
      go_ret
      exact ⟨ret_int (by omega), rfl⟩
  · have ht : decide (n ≤ 0) = true := by rw [decide_eq_true_iff]; omega
    have he : countZ n = 0 := by unfold countZ; rw [if_pos (by omega)]
    rw [he]
    go_enter Try.func14, Try.ntmps14
    go_wp2
    go_ret
    exact ⟨rfl, rfl⟩

theorem strB_bne {l m : List Nat} (hl : Small l) (hm : Small m) : ((strB l).toList != (strB m).toList) = !decide (l = m) := by
  rw [bne, strB_beq hl hm]

set_option maxHeartbeats 2000000 in
theorem blocks_any (A A' : Option Addr) (c c' : Nat) (L L' : List Value) (ls ms : List (List Nat)) (B : Nat) (w : World) (h1 : At w B A L) (h2 : At w B A' L') (hr : Reads w B L ls) (hr' : Reads w B L' ms) (hn : ls.length ≤ 100000) :
    Calls Try.prog 10 #[.slice A ls.length c, .slice A' ms.length c'] w fun e w' => e = .returned (.bool (decide (ls = ms))) ∧ Drew w w' := by
  by_cases hlen : ls.length = ms.length
  · have hl1 : ((ls.length : Int) != (ms.length : Int)) = false := by rw [hlen]; simp
    go_enter Try.func10, Try.ntmps10
    go_wp2_with fail
    go_loopw [5] (fun i wr => ∃ k : Nat, k ≤ ls.length ∧ i = .int .i64 k ∧ ls.take k = ms.take k ∧ Drew w wr) (fun i _ => ls.length - (intOf i).toNat)
    case atStart => exact ⟨0, Nat.zero_le _, rfl, rfl, Drew.refl _⟩
    case round =>
      obtain ⟨k, hk, rfl, heq, hd⟩ := hrel
      rcases Nat.lt_or_ge k ls.length with hlt | hge
      · have hlt' : k < ms.length := by omega
        obtain ⟨A1, c1, e1, _, b1⟩ := hr.2 k _ (List.getElem?_eq_getElem hlt)
        obtain ⟨A2, c2, e2, _, b2⟩ := hr'.2 k _ (List.getElem?_eq_getElem hlt')
        obtain ⟨b, o, rfl, _, q1⟩ := h1 k (by rw [hr.1]; exact hlt)
        obtain ⟨b', o', rfl, _, q2⟩ := h2 k (by rw [hr'.1]; exact hlt')
        rw [← List.getElem?_eq_getElem, e1] at q1
        rw [← List.getElem?_eq_getElem, e2] at q2
        have p1 : wr.cell? ⟨b, o + k, none⟩ = some (.slice A1 ls[k].length c1) := by obtain ⟨m, rfl⟩ := hd; exact q1
        have p2 : wr.cell? ⟨b', o' + k, none⟩ = some (.slice A2 ms[k].length c2) := by obtain ⟨m, rfl⟩ := hd; exact q2
        have s1 := (b1.below (hd.below B))
        have s2 := (b2.below (hd.below B))
        have hbn := strB_bne s1.2 s2.2
        have t1 := List.take_succ_eq_append_getElem hlt
        have t2 := List.take_succ_eq_append_getElem hlt'
        have r1 := fun n => run_bytes_str (P := Try.prog) (w := wr.drewN n) (s1 : Bytes (wr.drewN n) B A1 ls[k]) 22 9 5 Try.underlying22 Try.underlying5 Try.underlying9 c1
        have r2 := fun n => run_bytes_str (P := Try.prog) (w := wr.drewN n) (s2 : Bytes (wr.drewN n) B A2 ms[k]) 22 9 5 Try.underlying22 Try.underlying5 Try.underlying9 c2
        clear e1 e2 q1 q2 h1 h2 hr hr' b1 b2 s1 s2
        have hx : ls[k] = ms[k] → ls.take (k + 1) = ms.take (k + 1) := fun e => by rw [t1, t2, heq, e]
        have hy : ls[k] ≠ ms[k] → ls ≠ ms := fun hne e => by subst e; exact hne rfl
        clear t1 t2 heq
        generalize ls[k] = x at *
        generalize ms[k] = y at *
        have hx := Lib.hid hx
        have hy := Lib.hid hy
        by_cases hxy : x = y
        · have hbn2 : ((strB x).toList != (strB y).toList) = false := by rw [hbn]; simp [hxy]
          have hbn3 : ((strB x).toList == (strB y).toList) = true := by rw [hxy]; simp
          have H := Lib.hid hxy
          clear hbn hxy
          go_wp2_with fail
          go_quiet (fail)
          generalize hwq : World.drewN _ _ = w2
          have hd2 : Drew w w2 := by rw [← hwq]; exact hd.more _
          clear hwq r1 r2 p1 p2
          go_wp2
          go_roundw
          case rel => exact ⟨k + 1, by omega, by go_num, hx.out H.out, hd2⟩
          case measure => simp [intOf]; omega
        · have hbn2 : ((strB x).toList != (strB y).toList) = true := by rw [hbn]; simp [hxy]
          have hbn3 : ((strB x).toList == (strB y).toList) = false := by rw [bne] at hbn2; simpa using hbn2
          have H := Lib.hid hxy
          clear hbn hxy
          go_wp2_with fail
          go_quiet (fail)
          generalize hwq : World.drewN _ _ = w2
          have hd2 : Drew w w2 := by rw [← hwq]; exact hd.more _
          clear hwq r1 r2 p1 p2
          go_wp2
          go_ret
          exact ⟨ret_bool (by rw [eq_comm, decide_eq_false_iff_not]; exact hy.out H.out), hd2⟩
      · have hk2 : k = ls.length := by omega
        subst hk2
        have H : ls = ms := by rwa [List.take_length, hlen, List.take_length] at heq
        have HH := Lib.hid H
        clear H heq h1 h2 hr hr'
        go_wp2
        go_ret
        exact ⟨ret_bool (by rw [eq_comm, decide_eq_true_iff]; exact HH.out), hd⟩
  · have hne : decide (ls = ms) = false := by rw [decide_eq_false_iff_not]; exact fun e => hlen (by rw [e])
    have hl1 : ((ls.length : Int) != (ms.length : Int)) = true := by simp; omega
    rw [hne]
    go_enter Try.func10, Try.ntmps10
    go_wp2
    go_ret
    exact ⟨rfl, Drew.refl _⟩
end Go.Proofs.Ytobebgogbgeahaa
