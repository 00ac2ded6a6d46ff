/- The law PageBack. Conditions: none. -/
import Derived.Test.YtkknfccfgmflmaaPgInts
namespace Go.Proofs.Ytkknfccfgmflmaa
open Go.ChangeShapes Go.WideShapes Go.ChangeAt Go.RowKit
open NumMath
set_option linter.unusedVariables false
set_option linter.unusedSimpArgs false
set_option maxRecDepth 20000

set_option maxHeartbeats 8000000 in
theorem backLaw_any (n : Nat) (hn : n < 4294967296) (A : Option Addr) (c : Nat) (l : List OpP) (w : World) (h : OpsAt w w.heap.size A l) :
    Calls Try.prog 8 #[.int .u32 n, .slice A l.length c] w (TrueB w) := by
  have hsm := ops_small h
  go_enter Try.func8, Try.ntmps8
  go_wp2_with fail
  refine (heavy_any A c l w.heap.size w h).mono ?_
  rintro e w1 ⟨⟨r, rfl, hr⟩, rfl⟩
  cases r with
  | true =>
    clear hr h
    go_wp2_with fail
    refine (known_any _).mono ?_
    rintro e w1 ⟨rfl, b1⟩
    go_wp2
    go_ret
    exact ⟨rfl, b1⟩
  | false =>
    obtain ⟨hlen, hlight⟩ := hr rfl
    clear hr
    go_wp2_with fail
    refine (known_any _).mono ?_
    rintro e w1 ⟨rfl, b1⟩
    go_wp2_with fail
    refine (run_any n hn A c l w.heap.size w1 (h.below b1) b1.size hlen).mono ?_
    rintro e w2 ⟨gp, rfl, hg1, hp2, b2⟩
    have bw2 := b1.trans (b2.mono b1.size)
    have hlt2 := hp2.lt
    have hgp : w.heap.size ≤ gp := by have := b1.size; omega
    have hS := (runF_sound n l hsm).1
    clear b1 b2 h hsm hlight hlen
    generalize runF n l = f at *
    obtain ⟨hok, hrf⟩ := read_back hS
    have hc448 := cut_length f 0 448
    have cB := bytes_any hp2
    go_wp2_with fail
    refine cB.mono ?_
    rintro e w3 ⟨A3, c3, rfl, o3, b3, s3⟩
    have x3 := own_bytes o3 s3
    have bw3 := bw2.trans (b3.mono bw2.size)
    have hp3 := hp2.below b3
    have cR := read_any A3 c3 (cut f 0 448) w3.heap.size w3 x3 (Nat.le_refl _) (by omega)
    clear cB hp2 b3 s3 x3 o3
    go_wp2_with fail
    refine cR.mono ?_
    rintro e w4 ⟨b4, hpost⟩
    rcases hpost with ⟨-, gq, rfl, hq4, hgq⟩ | ⟨hno, -⟩
    · rw [hrf] at hq4
      have hq4 := hq4.again (fun i hi => fL_cut f i hi) hS.small
      have hp4 := hp3.below b4
      have bw4 := bw3.trans (b4.mono bw3.size)
      have hne : gp ≠ gq := by have := hp3.lt; omega
      have hgq' : w.heap.size ≤ gq := by have := bw3.size; omega
      clear cR hrf hp3 b4 bw3 bw2 hok
      have L1 := lsn_any hq4
      have L2 := lsn_any hp4
      have N1 := number_any hq4
      have N2 := number_any hp4
      have S1 := slots_any hp4 hS.ok
      go_wp2_with fail
      refine L1.mono ?_
      rintro e w5 ⟨rfl, rfl⟩
      clear L1
      go_wp2_with fail
      refine L2.mono ?_
      rintro e w5 ⟨rfl, rfl⟩
      clear L2
      go_wp2_with fail
      refine N1.mono ?_
      rintro e w5 ⟨rfl, rfl⟩
      clear N1
      go_wp2_with fail
      refine N2.mono ?_
      rintro e w5 ⟨rfl, rfl⟩
      clear N2
      go_wp2_with fail
      refine S1.mono ?_
      rintro e w5 ⟨A5, c5, rfl, o5, b5⟩
      have hp5 := hp4.below b5
      have hq5 := hq4.below b5
      have bw5 := bw4.trans (b5.mono bw4.size)
      have x5 := At.own o5
      have S2 := slots_any hq5 hS.ok
      clear S1 hp4 hq4 b5 bw4 o5
      go_wp2_with fail
      refine S2.mono ?_
      rintro e w6 ⟨A6, c6, rfl, o6, b6⟩
      have hp6 := hp5.below b6
      have hq6 := hq5.below b6
      have bw6 := bw5.trans (b6.mono bw5.size)
      have hs40 : (slotsF f).length ≤ 40 := Nat.le_trans (slotsTo_len f _) hS.ok.c40
      have cI := ints_any A5 A6 c5 c6 (slotsF f) (slotsF f) w6.heap.size w6 ((x5.below b6).more b6.size) (At.own o6) (by omega)
      rw [decide_eq_true (show slotsF f = slotsF f from rfl)] at cI
      clear S2 hp5 hq5 b6 bw5 o6 x5
      go_wp2_with fail
      refine cI.mono ?_
      rintro e w7 ⟨rfl, hd7⟩
      have hp7 := hp6.below (hd7.below w6.heap.size)
      have hq7 := hq6.below (hd7.below w6.heap.size)
      have bw7 := bw6.trans (hd7.below w.heap.size)
      have S3 := slots_any hp7 hS.ok
      clear cI hp6 hq6 bw6 hd7
      go_wp2_with fail
      refine S3.mono ?_
      rintro e w8 ⟨A8, c8, rfl, o8, b8⟩
      have hp8 := hp7.below b8
      have hq8 := hq7.below b8
      have bw8 := bw7.trans (b8.mono bw7.size)
      have x8 := At.own o8
      have hmem : ∀ s ∈ slotsF f, s < cnt f ∧ 0 < lenN f s := fun s hs => slotsTo_mem hs
      clear S3 hp7 hq7 b8 bw7 o8
      generalize slotsF f = L at *
      obtain ⟨m, hm⟩ : ∃ m, L.length = m := ⟨_, rfl⟩
      rw [hm] at hs40 ⊢
      have HM := Lib.hid hm
      clear hm
      have hw8 := bw8.size
      go_wp2_with fail
      go_loopw [9, 10, 11, 12, 13] (fun i _ _ _ _ wr => ∃ k : Nat, k ≤ m ∧ i = .int .i64 k ∧ Below w8.heap.size w8 wr) (fun i _ _ _ _ _ => m - (intOf i).toNat)
      case atStart => exact ⟨0, by omega, rfl, Below.refl _ _⟩
      case round =>
        obtain ⟨k, hk, rfl, hb⟩ := hrel
        have hpr := hp8.below hb
        have hqr := hq8.below hb
        have hwr := hb.size
        rcases Nat.lt_or_ge k m with hlt | hge
        · have e1 : decide ((k : Int) < (m : Int)) = true := by rw [decide_eq_true_iff]; omega
          have e2 : (0 : Int) ≤ (k : Int) := by omega
          have e3 : (k : Int) < (m : Int) := by omega
          have hkL : k < L.length := by rw [HM.out]; exact hlt
          obtain ⟨b, o, rfl, hbl, hc⟩ := x8 k (by rw [List.length_map]; exact hkL)
          rw [List.getElem_map] at hc
          have hms := hmem _ (List.getElem_mem hkL)
          unfold intV at hc
          have hcb : ∀ W, Below w8.heap.size w8 W → W.cell? ⟨b, o + k, none⟩ = w8.cell? ⟨b, o + k, none⟩ := fun W hW => hW.cell (p := ⟨b, o + k, none⟩) hbl
          have hcr := (hcb wr hb).trans hc
          generalize L[k] = s at *
          have cA := get_page hpr hS (s : Nat)
          rw [getP_nat] at cA
          have hdl : 0 < (dat f s).length := by
            rw [dat_length]
            unfold oldN
            rw [if_pos hms.1]
            exact hms.2
          have hdd : decide (0 < (dat f s).length) = true := decide_eq_true hdl
          go_wp2_with fail
          refine cA.mono ?_
          rintro e w9 ⟨A9, c9, rfl, o9, b9, s9⟩
          have hq9 := hqr.below b9
          have x9 := own_bytes o9 s9
          have hb9 := hb.trans (b9.mono hwr)
          have hc9 : w9.cell? ⟨b, o + k, none⟩ = some (.int .i64 (s : Nat)) := (hcb w9 hb9).trans hc
          have cB := get_page hq9 hS (s : Nat)
          rw [getP_nat] at cB
          clear cA o9 s9 b9 hqr hpr hb hc hcr hcb
          go_wp2_with fail
          refine cB.mono ?_
          rintro e w10 ⟨A10, c10, rfl, o10, b10, s10⟩
          have x10 := own_bytes o10 s10
          have x9' := (x9.below b10).more b10.size
          have hb10 := hb9.trans (b10.mono hb9.size)
          clear cB o10 s10 b10 hq9 hb9 x9
          generalize dat f s = dl at *
          have cT := same_any A9 A10 c9 c10 dl dl w10.heap.size w10 x9' x10
          rw [decide_eq_true (show dl = dl from rfl)] at cT
          go_wp2_with fail
          refine cT.mono ?_
          rintro e w11 ⟨rfl, rfl⟩
          have HB := Lib.hid hb10
          clear cT hb10 x9' x10
          go_wp2
          go_roundw
          case rel => exact ⟨k + 1, by omega, by go_num, HB.out⟩
          case measure => simp [intOf]; omega
        · obtain rfl : k = m := by omega
          have e1 : decide ((k : Int) < (k : Int)) = false := by rw [decide_eq_false_iff_not]; omega
          have hbw := bw8.trans (hb.mono hw8)
          have cB := bytes_any hpr
          have HL := Lib.hid hc448
          clear hqr hp8 hq8 hmem hc448
          generalize cut f 0 448 = ll at *
          go_wp2_with fail
          refine cB.mono ?_
          rintro e w9 ⟨A9, c9, rfl, o9, b9, s9⟩
          have hb9 := hbw.trans (b9.mono hbw.size)
          rw [HL.out]
          clear cB o9 s9 b9 hbw
          go_wp2
          go_ret
          exact ⟨rfl, hb9⟩
    · exact absurd hok hno
theorem pageBack_walk (v0 v1 : Value) (w : World) (w0 : IsInt .u32 w v0) (w1 : IsOps w v1) :
    Calls Try.prog 8 #[v0, v1] w fun e w' => e = .returned (.bool true) ∧ Below w.heap.size w w' := by
  obtain ⟨a, rfl, ha⟩ := w0
  obtain ⟨n, rfl, hn⟩ := nat_u32 ha
  obtain ⟨A, c, l, rfl, h⟩ := w1
  exact backLaw_any n hn A c l w h
end Go.Proofs.Ytkknfccfgmflmaa
