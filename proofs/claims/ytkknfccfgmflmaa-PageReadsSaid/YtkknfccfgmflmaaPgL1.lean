/- The law PageSlots. Conditions: none. -/
import Derived.Test.YtkknfccfgmflmaaPgRun
namespace Go.Proofs.Ytkknfccfgmflmaa
open Go.ChangeShapes Go.WideShapes Go.ChangeAt Go.RowKit
open NumMath
set_option linter.unusedVariables false
set_option linter.unusedSimpArgs false
set_option maxRecDepth 20000

def TrueB (w : World) (e : Ending) (w' : World) : Prop := e = .returned (.bool true) ∧ Below w.heap.size w w'
theorem in_args {w w' : World} {B gp : Nat} {A : Option Addr} {l : List Nat} (h : Bytes w B A l) (hB : B ≤ gp) (hs : B ≤ w.heap.size) : BytesIn w (fun b => b ≠ gp) A l := by
  refine ⟨fun j hj => ?_, h.2⟩
  obtain ⟨b, o, e, q1, q2⟩ := h.1 j hj
  exact ⟨b, o, e, by omega, by omega, q2⟩
theorem getP_nat (f : Nat → Nat) (k : Nat) : getP f (k : Nat) = dat f k := by unfold getP; rw [if_pos (by omega), Int.toNat_natCast]
theorem setP_got {f : Nat → Nat} (h : Sound f) (s : Int) {d : List Nat} (hd : Small d) (h0 : (setP f s d).1 = 0) : getP (setP f s d).2 s = d ∧ 0 < d.length := by
  have h1 : 0 ≤ s ∧ s < 40 ∧ 1 ≤ d.length ∧ d.length ≤ 64 := by
    refine Decidable.byContradiction fun hn => ?_
    unfold setP at h0
    rw [if_neg hn] at h0
    cases h0
  obtain ⟨k, rfl⟩ := Int.eq_ofNat_of_zero_le h1.1
  refine ⟨?_, h1.2.2.1⟩
  rw [getP_nat, (setP_sound h _ hd).2.2.1 k, if_pos ⟨h0, rfl⟩]
set_option maxHeartbeats 8000000 in
theorem slotsLaw_any (n : Nat) (hn : n < 4294967296) (A : Option Addr) (c : Nat) (l : List OpP) (s : Int) (A2 : Option Addr) (c2 : Nat) (d : List Nat) (w : World) (h : OpsAt w w.heap.size A l) (hd : Bytes w w.heap.size A2 d) :
    Calls Try.prog 4 #[.int .u32 n, .slice A l.length c, .int .i64 s, .slice A2 d.length c2] w (TrueB w) := by
  have hsm := ops_small h
  go_enter Try.func4, Try.ntmps4
  go_wp2_with fail
  refine (heavy_any A c l w.heap.size w h).mono ?_
  rintro e w1 ⟨⟨r, rfl, hr⟩, rfl⟩
  cases r with
  | true =>
    clear hr h hd
    go_wp2_with fail
    refine (known_any _).mono ?_
    rintro e w1 ⟨rfl, b1⟩
    go_wp2
    go_ret
    exact ⟨rfl, b1⟩
  | false =>
    obtain ⟨hlen, hlight⟩ := hr rfl
    clear hr
    rcases Nat.lt_or_ge 200 d.length with hfl | hfl
    · have t1 : decide ((200 : Int) < (d.length : Int)) = true := by rw [decide_eq_true_iff]; omega
      clear h hd hlight
      go_wp2_with fail
      refine (known_any _).mono ?_
      rintro e w1 ⟨rfl, b1⟩
      go_wp2
      go_ret
      exact ⟨rfl, b1⟩
    have t1 : decide ((200 : Int) < (d.length : Int)) = false := by rw [decide_eq_false_iff_not]; omega
    go_wp2_with fail
    refine (known_any _).mono ?_
    rintro e w1 ⟨rfl, b1⟩
    go_wp2_with fail
    refine (run_any n hn A c l w.heap.size w1 (h.below b1) b1.size hlen).mono ?_
    rintro e w2 ⟨gp, rfl, hg1, hp2, b2⟩
    have bw2 := b1.trans (b2.mono b1.size)
    have hsz1 := b1.size
    have hlt2 := hp2.lt
    go_wp2_with fail
    refine (run_any n hn A c l w.heap.size w2 (h.below bw2) bw2.size hlen).mono ?_
    rintro e w3 ⟨gq, rfl, hg2, hq3, b3⟩
    have bw3 := bw2.trans (b3.mono bw2.size)
    have hp3 := hp2.below b3
    have hne : gp ≠ gq := by omega
    have hgp : w.heap.size ≤ gp := by omega
    have hgq : w.heap.size ≤ gq := by have := bw2.size; omega
    have hS := (runF_sound n l hsm).1
    have hb3 : BytesIn w3 (fun b => b ≠ gp) A2 d := in_args (w' := w3) (hd.below bw3) hgp bw3.size
    clear hp2 b1 b2 b3 bw2 h hsm hlight
    generalize runF n l = f at *
    have cF := free_any hp3 hS.ok
    have hset := setP_sound hS s hd.2
    have hgot := setP_got hS s hd.2
    have cS := set_any hp3 hS s A2 c2 d hb3
    go_wp2_with fail
    refine cF.mono ?_
    rintro e w4 ⟨rfl, rfl⟩
    clear cF
    go_wp2_with fail
    refine cS.mono ?_
    rintro e w4 ⟨rfl, hP⟩
    have bw4 : Below w.heap.size w w4 := bw3.trans (hP.2.below bw3.size fun b e => by omega)
    have hq4 : PgAt w4 gq f := hq3.only hP.2 (fun e => hne e.symm)
    have hp4 := hP.1
    clear cS hP hb3 hp3 hq3 bw3
    obtain ⟨co, hco⟩ : ∃ co, (setP f s d).1 = co := ⟨_, rfl⟩
    obtain ⟨f', hf'⟩ : ∃ f', (setP f s d).2 = f' := ⟨_, rfl⟩
    rw [hco, hf'] at hset
    rw [hco, hf'] at hgot
    rw [hco]
    rw [hf'] at hp4
    clear hco hf'
    obtain ⟨hS', -, hdat, hcode, hsame⟩ := hset
    have hw4 := bw4.size
    go_wp2_with fail
    go_loopw [13, 14, 15, 16, 17] (fun i _ _ _ _ wr => ∃ k : Nat, k ≤ 40 ∧ i = .int .i64 k ∧ Below w4.heap.size w4 wr) (fun i _ _ _ _ _ => 40 - (intOf i).toNat)
    case atStart => exact ⟨0, by omega, rfl, Below.refl _ _⟩
    case round =>
      obtain ⟨k, hk, rfl, hb⟩ := hrel
      have hpr := hp4.below hb
      have hqr := hq4.below hb
      have hwr := hb.size
      rcases Nat.lt_or_ge k 40 with hlt | hge
      · have e1 : decide ((k : Int) < 40) = true := by rw [decide_eq_true_iff]; omega
        have cA := get_page hpr hS' (k : Nat)
        rw [getP_nat, hdat k] at cA
        by_cases hcon : co = 0 ∧ (k : Int) = s
        · obtain ⟨rfl, hks⟩ := hcon
          have t2 : ((k : Int) == s) = true := by rw [beq_iff_eq]; exact hks
          have HB := Lib.hid hb
          clear cA hpr hqr hp4 hq4 hb hks
          go_wp2
          go_roundw
          case rel => exact ⟨k + 1, by omega, by go_num, HB.out⟩
          case measure => simp [intOf]; omega
        · rw [if_neg hcon] at cA
          have ht : (((co : Int) == 0) = false) ∨ (((co : Int) == 0) = true ∧ ((k : Int) == s) = false) := by
            by_cases h0 : co = 0
            · right
              exact ⟨by rw [beq_iff_eq]; omega, by rw [beq_eq_false_iff_ne]; exact fun e => hcon ⟨h0, e⟩⟩
            · left
              rw [beq_eq_false_iff_ne]; omega
          clear hcon
          rcases ht with t2 | ⟨t2, t3⟩
          all_goals
            go_wp2_with fail
            refine cA.mono ?_
            rintro e w5 ⟨A5, n5, rfl, o5, b5, s5⟩
            have hq5 := hqr.below b5
            have x5 := own_bytes o5 s5
            have hb5 := hb.trans (b5.mono hwr)
            have cB := get_page hq5 hS (k : Nat)
            rw [getP_nat] at cB
            clear cA o5 s5 b5 hqr hpr hb
            go_wp2_with fail
            refine cB.mono ?_
            rintro e w6 ⟨A6, n6, rfl, o6, b6, s6⟩
            have x6 := own_bytes o6 s6
            have x5' := (x5.below b6).more b6.size
            have hb6 := hb5.trans (b6.mono hb5.size)
            clear cB o6 s6 b6 hq5 hb5 x5
            generalize dat f k = dl at *
            have cT := same_any A5 A6 n5 n6 dl dl w6.heap.size w6 x5' x6
            rw [decide_eq_true (show dl = dl from rfl)] at cT
            generalize decide (0 < dl.length) = bb at *
            go_wp2_with fail
            refine cT.mono ?_
            rintro e w7 ⟨rfl, rfl⟩
            have HB := Lib.hid hb6
            clear cT hb6 x5' x6
            go_wp2
            go_roundw
            case rel => exact ⟨k + 1, by omega, by go_num, HB.out⟩
            case measure => simp [intOf]; omega
      · obtain rfl : k = 40 := by omega
        have e1 : decide (((40 : Nat) : Int) < 40) = false := rfl
        have hbw := bw4.trans (hb.mono hw4)
        by_cases h0 : co = 0
        · subst h0
          obtain ⟨g1, g2⟩ := hgot rfl
          have cA := get_page hpr hS' s
          rw [g1] at cA
          have hdw := hd.below hbw
          have hd0 : decide (0 < d.length) = true := decide_eq_true g2
          rw [show GetPost d wr = fun e w' => GetPost d wr e w' from rfl] at cA
          clear hqr hpr hp4 hq4 hdat hsame hgot hcode
          go_wp2_with fail
          refine cA.mono ?_
          rintro e w5 ⟨A5, n5, rfl, o5, b5, s5⟩
          have x5 := own_bytes o5 s5
          have hb5 := hbw.trans (b5.mono hbw.size)
          have hd5 := (hdw.below (b5.mono hbw.size)).more hb5.size
          have cT := same_any A5 A2 n5 c2 d d w5.heap.size w5 x5 hd5
          rw [decide_eq_true (show d = d from rfl)] at cT
          clear cA o5 s5 b5 hbw x5 hdw
          go_wp2_with fail
          refine cT.mono ?_
          rintro e w7 ⟨rfl, rfl⟩
          clear cT
          go_wp2
          go_ret
          exact ⟨rfl, hb5⟩
        · have hff := hsame h0
          subst hff
          have t2 : ((co : Int) != 0) = true := by rw [bne_iff_ne]; omega
          have cF := free_any hpr hS.ok
          have cA := bytes_any hpr
          go_wp2_with fail
          refine cF.mono ?_
          rintro e w5 ⟨rfl, rfl⟩
          clear cF hpr hp4 hdat
          go_wp2_with fail
          refine cA.mono ?_
          rintro e w5 ⟨A5, n5, rfl, o5, b5, s5⟩
          have x5 := own_bytes o5 s5
          have hb5 := hbw.trans (b5.mono hbw.size)
          have hq5 := hqr.below b5
          have cB := bytes_any hq5
          clear cA o5 s5 b5 hbw hqr
          go_wp2_with fail
          refine cB.mono ?_
          rintro e w6 ⟨A6, n6, rfl, o6, b6, s6⟩
          have x6 := own_bytes o6 s6
          have x5' := (x5.below b6).more b6.size
          have hb6 := hb5.trans (b6.mono hb5.size)
          have cT := same_any A5 A6 n5 n6 _ _ w6.heap.size w6 x5' x6
          rw [decide_eq_true (show cut f' 0 448 = cut f' 0 448 from rfl)] at cT
          clear cB o6 s6 b6 hb5 x5 x5' x6 hq5
          generalize cut f' 0 448 = ll at *
          go_wp2_with fail
          refine cT.mono ?_
          rintro e w7 ⟨rfl, rfl⟩
          clear cT
          go_wp2
          go_ret
          exact ⟨rfl, hb6⟩
theorem nat_u32 {a : Int} (h : (Lit.int .u32 a).wf = true) : ∃ n : Nat, a = n ∧ n < 4294967296 := by
  have := bounds_u32 h
  exact ⟨a.toNat, by omega, by omega⟩
theorem pageSlots_walk (v0 v1 v2 v3 : Value) (w : World) (w0 : IsInt .u32 w v0) (w1 : IsOps w v1) (w2 : IsInt .i64 w v2) (w3 : IsBytes w v3) :
    Calls Try.prog 4 #[v0, v1, v2, v3] w fun e w' => e = .returned (.bool true) ∧ Below w.heap.size w w' := by
  obtain ⟨a, rfl, ha⟩ := w0
  obtain ⟨n, rfl, hn⟩ := nat_u32 ha
  obtain ⟨A, c, l, rfl, h⟩ := w1
  obtain ⟨s, rfl, hs⟩ := w2
  obtain ⟨A2, c2, d, rfl, _, _, hd⟩ := w3
  exact slotsLaw_any n hn A c l s A2 c2 d w h hd
end Go.Proofs.Ytkknfccfgmflmaa
