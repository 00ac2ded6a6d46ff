/- The law StripCuts, walked. Conditions: none beyond what the row says. -/
import Derived.Test.YtobebgogbgeahaaLaws
import Derived.Test.YtobebgogbgeahaaMath
import Derived.Deep.RegionWith
import Derived.Deep.RegionHeld3
namespace Go.Proofs.Ytobebgogbgeahaa
open Go.ChangeShapes Go.WideShapes Go.ChangeAt Go.RowKit
set_option linter.unusedVariables false
set_option linter.unusedSimpArgs false
set_option maxRecDepth 20000

theorem own_cap {w : World} {base : Nat} {e : TypeId} {size : Nat} {A : Option Addr} {n c : Nat} {xs : List Value} (h : w.ownsRow base e size (.slice A n c) n xs) : n ≤ c := by
  obtain ⟨A', c', e', hc, _⟩ := own_form h
  injection e' with _ _ e3
  omega
theorem Reads.take {w : World} {B : Nat} {L : List Value} {ls : List (List Nat)} (h : Reads w B L ls) (n : Nat) : Reads w B (L.take n) (ls.take n) := ⟨by simp [h.1], fun j l hl => by
  rw [List.getElem?_take] at hl
  split at hl
  · rename_i hj
    obtain ⟨A, c, h1, h2, h3⟩ := h.2 j l hl
    exact ⟨A, c, by rw [List.getElem?_take, if_pos hj]; exact h1, h2, h3⟩
  · cases hl⟩

set_option maxHeartbeats 1000000 in
theorem stripCuts_walk (a0 : Option Addr) (len0 cap0 : Nat) (z0 : List Int) (a1 : Int) (w : World) (w0 : IsRow .u8 w a0 len0 cap0 z0) (w1 : (Lit.int .u8 a1).wf = true) :
    Calls Try.prog 7 #[.slice a0 len0 cap0, .int .u8 a1] w fun e w' => e = .returned (.bool true) ∧ Below w.heap.size w w' := by
  obtain ⟨hlc, l, rfl, hl⟩ := w0.bytes
  obtain ⟨k, rfl, hk⟩ := nat_u8 w1
  clear w0 z0 w1
  rcases Nat.lt_or_ge 2000 l.length with hlt | hge
  · have ht : decide ((2000 : Int) < (l.length : Int)) = true := by rw [decide_eq_true_iff]; omega
    go_enter Try.func7, Try.ntmps7
    go_wp2_with (go_at_call 8; refine (known_any _).mono ?_; rintro e w1 ⟨rfl, hb1⟩)
    go_ret
    exact ⟨rfl, hb1⟩
  have ht : decide ((2000 : Int) < (l.length : Int)) = false := by rw [decide_eq_false_iff_not]; omega
  have hwf : (Lit.int .i64 (l.length : Int)).wf = true := WalkArith.wf_i64 ⟨by omega, by omega⟩
  go_enter Try.func7, Try.ntmps7
  go_wp2_with fail
  refine (known_any _).mono ?_
  rintro e w2 ⟨rfl, hb2⟩
  go_wp2_with fail
  refine (lay_any a0 l cap0 w2.heap.size hlc (by omega) w2 (Nat.le_refl _) ((hl.below hb2).more hb2.size)).mono ?_
  intro e w4 hret4
  obtain ⟨A4, c4, L4, rfl, hown4, -, hb4, hat4, hrd4⟩ := hret4.is
  have hc4 := own_cap hown4
  have hbw4 := hb2.trans (hb4.mono hb2.size)
  have hcl := chunks_le (l := l) (by omega)
  have hrt := fun n => read_take n l
  have hll := layOf_length l
  obtain ⟨N, hN⟩ : ∃ N, chunks l = N := ⟨_, rfl⟩
  have hcz := countZ_chunks l
  rw [hN] at hcz hll hcl
  rw [hll] at hc4 ⊢
  clear hret4 hown4
  obtain ⟨n, hn⟩ : ∃ n, k % (N + 1) = n := ⟨_, rfl⟩
  have hn2 : n ≤ N := by rw [← hn]; exact Nat.le_of_lt_succ (Nat.mod_lt _ (Nat.succ_pos N))
  have hm2 : (k : Int) % ((N : Int) + 1) = (n : Int) := by rw [← hn, Int.natCast_emod]; congr 1
  have hm1 : (k : Int).tmod ((N : Int) + 1) = (n : Int) := by rw [Int.tmod_eq_emod_of_nonneg (by omega)]; exact hm2
  have hz : ((N : Int) + 1 == 0) = false := by rw [beq_eq_false_iff_ne]; omega
  have hne : ((N : Int) != (N : Int)) = false := by simp
  have hnc : n ≤ c4 := by omega
  go_wp2_with fail
  refine (count_any _ _ hwf).mono ?_
  rintro e w7 ⟨rfl, rfl⟩
  rw [hcz]
  have hread := read_any A4 c4 (L4.take n) ((layOf l).take n) w4.heap.size w4 (hat4.take n) (hrd4.take n) (Nat.le_refl _) (by simp; omega)
  rw [hrt n, show ((layOf l).take n).length = n by simp [hll]; omega] at hread
  clear hn hcz hrd4 hat4 hrt hll
  go_wp2_with fail
  refine hread.mono ?_
  clear hread
  rintro e w5 hret
  obtain ⟨A5, c5, rfl, -, hb5, hx5⟩ := hret.is
  have hbw5 := hbw4.trans (hb5.mono hbw4.size)
  obtain ⟨p, hp⟩ : ∃ p, 127 * n = p := ⟨_, rfl⟩
  have hp1 : (127 : Int) * (n : Int) = (p : Int) := by omega
  obtain ⟨q, hq⟩ : ∃ q, min p l.length = q := ⟨_, rfl⟩
  have hq1 : (if (p : Int) < (l.length : Int) then (p : Int) else (l.length : Int)) = (q : Int) := by split <;> omega
  have hq2 : (if (l.length : Int) < (p : Int) then (l.length : Int) else (p : Int)) = (q : Int) := by split <;> omega
  have hq3 : q ≤ l.length := by omega
  have hq4 : q ≤ cap0 := by omega
  rw [hp] at hx5
  have hlen : (l.take p).length = q := by simp [← hq]
  have hqt : l.take q = l.take p := by rw [← hq, List.take_eq_take_iff]; omega
  have hlq : (l.take q).length = q := by rw [hqt]; exact hlen
  have hsame := same_any A5 a0 c5 cap0 (l.take p) (l.take q) w5.heap.size w5 hx5 (((hl.below hbw5).take q).more hbw5.size)
  rw [hlen, hlq, hqt, show decide (l.take p = l.take p) = true by simp] at hsame
  rw [hp, hlen]
  have HQ := Lib.hid hq
  clear hret hx5 hqt hlq hlen hbw4 hb5 hb4 hb2 hl hq hq1 hq2
  go_wp2_with fail
  · have e : q = l.length := by have := HQ.out; omega
    rw [e] at hsame ⊢
    refine hsame.mono ?_
    rintro e w6 ⟨rfl, rfl⟩
    go_wp2
    go_ret
    exact ⟨rfl, hbw5⟩
  · have e : q = p := by have := HQ.out; omega
    rw [e] at hsame ⊢
    refine hsame.mono ?_
    rintro e w6 ⟨rfl, rfl⟩
    go_wp2
    go_ret
    exact ⟨rfl, hbw5⟩
end Go.Proofs.Ytobebgogbgeahaa
