/- page: the document's calls on the page's own state; alike. Conditions: both lie there. -/
import Derived.Test.YtkknfccfgmflmaaPgRefB
namespace Go.Proofs.Ytkknfccfgmflmaa
open Go.ChangeShapes Go.WideShapes Go.ChangeAt Go.RowKit
open NumMath
set_option linter.unusedVariables false
set_option linter.unusedSimpArgs false
set_option maxRecDepth 20000

section
variable {w : World} {gr gp : Nat} {f : Nat → Nat}
theorem toR_setHyp (h : Sound f) {k : Nat} (hk : k < 40) {d : List Nat} (hd1 : 1 ≤ d.length) (hd2 : d.length ≤ 64) (hd : Small d) (hfit : 16 + 4 * max (topN (toR f).S 40) (k + 1) + allS (toR f).S k 40 + d.length ≤ 448) : SetHyp (toR f) k d := by
  have hneed : max (topN (toR f).S 40) (k + 1) = needC f k := by rw [toR_top h]; rfl
  rw [hneed, allS_to h hk] at hfit
  obtain ⟨a1, a2⟩ := setRR_to h hk hd1 hd2 hd hfit
  obtain ⟨-, b1, -⟩ := set_sound h hk hd1 hd2 hd hfit
  unfold SetHyp
  rw [hneed]
  refine ⟨by rw [a1]; exact toR_fit b1, ?_, fun hne => ?_⟩
  · unfold preR
    rw [hneed]
    by_cases e : (toR f).S k = d.length
    · rw [if_pos e, ← e]
      exact ((toR_fit h).fit k hk).1
    · rw [if_neg e]
      obtain ⟨-, -, c3, -⟩ := a2 e
      have hl := lowS_le (midR (toR f) k (needC f k) d) 40
      show up1 _ k _ k + d.length ≤ 448
      unfold up1
      rw [if_pos rfl]
      omega
  · obtain ⟨c1, c2, c3, c4⟩ := a2 hne
    refine ⟨c2, fun ht => ?_, by omega, by omega⟩
    have : midR (toR f) k (needC f k) d = togR (clearR (toR f) k) := if_pos ht
    rw [← this]
    exact c2
theorem rset_any (h : RAt w gr (toR f)) (hS : Sound f) (s : Int) (A : Option Addr) (c : Nat) (d : List Nat) (hb : BytesIn w (fun b => b ≠ gr) A d) :
    Calls Try.prog 44 #[.pointer (some ⟨gr, 0, none⟩), .int .i64 s, .slice A d.length c] w fun e w' => e = .returned (.int .i64 ((setP f s d).1 : Nat)) ∧ RPost gr (toR (setP f s d).2) w w' := by
  have hto := setRP_to hS s hb.2
  have e1 : (setP f s d).1 = (setRP (toR f) s d).1 := by rw [hto]
  have e2 : toR (setP f s d).2 = (setRP (toR f) s d).2 := by rw [hto]
  rw [e1, e2]
  unfold setRP
  by_cases h1 : 0 ≤ s ∧ s < 40 ∧ 1 ≤ d.length ∧ d.length ≤ 64
  · rw [if_pos h1]
    obtain ⟨a1, a2, a3, a4⟩ := h1
    obtain ⟨k, rfl⟩ := Int.eq_ofNat_of_zero_le a1
    rw [Int.toNat_natCast]
    refine (rset_good h k (by omega) A c d a3 a4 hb (fun hf => toR_setHyp hS (by omega) a3 a4 hb.2 hf)).mono ?_
    rintro e w' ⟨p1, p2⟩
    by_cases h2 : 448 < 16 + 4 * max (topN (toR f).S 40) (k + 1) + allS (toR f).S k 40 + d.length
    · rw [if_pos h2]
      obtain ⟨rfl, rfl⟩ := p1 h2
      exact ⟨rfl, RPost.refl h⟩
    · rw [if_neg h2]
      obtain ⟨rfl, hp⟩ := p2 (by omega)
      exact ⟨rfl, hp⟩
  · rw [if_neg h1]
    refine (rset_bad s A c d.length w h1 _).mono ?_
    rintro e w' ⟨rfl, rfl⟩
    exact ⟨rfl, RPost.refl h⟩
theorem rclear_to (h : RAt w gr (toR f)) (hS : Sound f) (s : Int) :
    Calls Try.prog 41 #[.pointer (some ⟨gr, 0, none⟩), .int .i64 s] w fun e w' => e = .returned (.bool (clearP f s).1) ∧ RPost gr (toR (clearP f s).2) w w' := by
  obtain ⟨e1, e2⟩ := clearR_to hS s
  rw [← e1, ← e2]
  exact rclear_any h s
theorem rget_to (h : RAt w gr (toR f)) (hS : Sound f) (s : Int) :
    Calls Try.prog 42 #[.pointer (some ⟨gr, 0, none⟩), .int .i64 s] w (GetPost (getP f s) w) := by
  rw [← toR_get hS]
  exact rget_any h s
theorem rstamp_to (h : RAt w gr (toR f)) (hS : Sound f) (v : Nat) (hv : v < 18446744073709551616) :
    Calls Try.prog 43 #[.pointer (some ⟨gr, 0, none⟩), .int .u64 v] w fun e w' => e = .returned (.tuple #[]) ∧ RPost gr (toR (stmp f v)) w w' := by
  have : toR (stmp f v) = { toR f with L := v } := toR_stamp hS hv
  rw [this]
  exact rstamp_any h v hv
theorem free_to (h : Sound f) : freeS (toR f) = freeI f := by
  rw [free_eq h]
  unfold freeS
  rw [toR_top h, allS_none, show totN (toR f).S 40 = totN (oldN f) 40 from rfl, cnt_top h]
  omega
set_option maxHeartbeats 4000000 in
theorem alike_any (h : PgAt w gp f) (hr : RAt w gr (toR f)) (hS : Sound f) :
    Calls Try.prog 21 #[.pointer (some ⟨gp, 0, none⟩), .pointer (some ⟨gr, 0, none⟩)] w fun e w' => e = .returned (.bool true) ∧ Below w.heap.size w w' := by
  have c1 := number_any h
  have c2 : Calls Try.prog 45 #[.pointer (some ⟨gr, 0, none⟩)] w fun e w' => e = .returned (.int .u32 (rd f 8 4 : Nat)) ∧ w = w' := rnumber_any hr
  have c3 := lsn_any h
  have c4 : Calls Try.prog 46 #[.pointer (some ⟨gr, 0, none⟩)] w fun e w' => e = .returned (.int .u64 (rd f 0 8 : Nat)) ∧ w = w' := rlsn_any hr
  have c5 := free_any h hS.ok
  have c6 := rfree_any hr
  rw [free_to hS] at c6
  have c7 := bytes_any h
  have c8 := fun (W : World) (hb : Below w.heap.size w W) => rbytes_any (hr.below hb)
  rw [bytes_to hS] at c8
  have c9 := fun (W : World) (hb : Below w.heap.size w W) => slots_any (h.below hb) hS.ok
  have c10 := fun (W : World) (hb : Below w.heap.size w W) => rslots_any (hr.below hb)
  rw [slotsS_to hS] at c10
  have hs40 : (slotsF f).length ≤ 40 := Nat.le_trans (slotsTo_len f _) hS.ok.c40
  clear h hr hS
  generalize rd f 8 4 = n at *
  generalize rd f 0 8 = l at *
  generalize freeI f = z at *
  generalize slotsF f = L at *
  generalize cut f 0 448 = bl at *
  have t1 : ((n : Int) == (n : Int)) = true := by rw [beq_iff_eq]
  have t2 : ((l : Int) == (l : Int)) = true := by rw [beq_iff_eq]
  have t3 : (z == z) = true := by rw [beq_iff_eq]
  go_enter Try.func21, Try.ntmps21
  go_wp2_with fail
  refine c1.mono ?_
  rintro e w1 ⟨rfl, rfl⟩
  clear c1
  go_wp2_with fail
  refine c2.mono ?_
  rintro e w1 ⟨rfl, rfl⟩
  clear c2
  go_wp2_with fail
  refine c3.mono ?_
  rintro e w1 ⟨rfl, rfl⟩
  clear c3
  go_wp2_with fail
  refine c4.mono ?_
  rintro e w1 ⟨rfl, rfl⟩
  clear c4
  go_wp2_with fail
  refine c5.mono ?_
  rintro e w1 ⟨rfl, rfl⟩
  clear c5
  go_wp2_with fail
  refine c6.mono ?_
  rintro e w1 ⟨rfl, rfl⟩
  clear c6
  go_wp2_with fail
  refine c7.mono ?_
  rintro e w1 ⟨A1, n1, rfl, o1, b1, s1⟩
  have x1 := own_bytes o1 s1
  have d8 := c8 w1 b1
  clear c7 c8 o1 s1
  go_wp2_with fail
  refine d8.mono ?_
  rintro e w2 ⟨A2, n2, rfl, o2, b2, s2⟩
  have x2 := own_bytes o2 s2
  have x1' := (x1.below b2).more b2.size
  have bb2 := b1.trans (b2.mono b1.size)
  have cT := same_any A1 A2 n1 n2 bl bl w2.heap.size w2 x1' x2
  rw [decide_eq_true (show bl = bl from rfl)] at cT
  have d9 := c9 w2 bb2
  clear d8 c9 o2 s2 b1 b2 x1 x1' x2
  go_wp2_with fail
  refine cT.mono ?_
  rintro e w3 ⟨rfl, rfl⟩
  clear cT
  go_wp2_with fail
  refine d9.mono ?_
  rintro e w3 ⟨A3, n3, rfl, o3, b3⟩
  have bb3 := bb2.trans (b3.mono bb2.size)
  have x3 := At.own o3
  have d10 := c10 w3 bb3
  clear d9 c10 o3 b3 bb2
  go_wp2_with fail
  refine d10.mono ?_
  rintro e w4 ⟨A4, n4, rfl, o4, b4⟩
  have bb4 := bb3.trans (b4.mono bb3.size)
  have cI := ints_any A3 A4 n3 n4 L L w4.heap.size w4 ((x3.below b4).more b4.size) (At.own o4) (by omega)
  rw [decide_eq_true (show L = L from rfl)] at cI
  clear d10 o4 b4 bb3 x3
  go_wp2_with fail
  refine cI.mono ?_
  rintro e w5 ⟨rfl, hd5⟩
  have bb5 := bb4.trans (hd5.below w.heap.size)
  clear cI bb4 hd5
  go_wp2
  go_ret
  exact ⟨rfl, bb5⟩
end
end Go.Proofs.Ytkknfccfgmflmaa
