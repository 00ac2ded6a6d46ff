/- The law PageFits. Conditions: none. -/
import Derived.Test.YtkknfccfgmflmaaPgL1
namespace Go.Proofs.Ytkknfccfgmflmaa
open Go.ChangeShapes Go.WideShapes Go.ChangeAt Go.RowKit
open NumMath
set_option linter.unusedVariables false
set_option linter.unusedSimpArgs false
set_option maxRecDepth 20000

/-- what the law reckons: one more than the greatest slot, all lengths but one slot's -/
def maxL (c : Nat) (l : List Nat) : Nat := l.foldl (fun c s => max c (s + 1)) c
def useL (f : Nat → Nat) (k : Nat) (l : List Nat) : Nat := l.foldl (fun u s => if s = k then u else u + lenN f s) 0
theorem maxL_snoc (c : Nat) (l : List Nat) (s : Nat) : maxL c (l ++ [s]) = max (maxL c l) (s + 1) := by unfold maxL; rw [List.foldl_append]; rfl
theorem useL_snoc (f : Nat → Nat) (k : Nat) (l : List Nat) (s : Nat) : useL f k (l ++ [s]) = if s = k then useL f k l else useL f k l + lenN f s := by unfold useL; rw [List.foldl_append]; rfl
theorem maxL_slots (f : Nat → Nat) (c k : Nat) : maxL c (slotsTo f k) = max c (topN (lenN f) k) := by
  induction k with
  | zero => show c = max c 0; omega
  | succ k ih =>
    have hle : ∀ k, topN (lenN f) k ≤ k := by
      intro k
      induction k with
      | zero => exact Nat.le_refl _
      | succ k ih =>
        show (if 0 < lenN f k then k + 1 else topN (lenN f) k) ≤ _
        split <;> omega
    have := hle k
    rw [slotsTo_next]
    show _ = max c (if 0 < lenN f k then k + 1 else topN (lenN f) k)
    by_cases h : 0 < lenN f k
    · rw [if_pos h, if_pos h, maxL_snoc, ih]; omega
    · rw [if_neg h, if_neg h, List.append_nil, ih]
theorem useL_slots (f : Nat → Nat) (s k : Nat) : useL f s (slotsTo f k) + (if s < k then lenN f s else 0) = usedTo f k := by
  induction k with
  | zero => rfl
  | succ k ih =>
    rw [slotsTo_next]
    show _ = usedTo f k + lenN f k
    rw [← ih]
    by_cases h : 0 < lenN f k
    · rw [if_pos h, useL_snoc]
      by_cases e : k = s
      · subst e
        rw [if_pos rfl, if_pos (by omega), if_neg (by omega)]
        omega
      · rw [if_neg e]
        by_cases e2 : s < k
        · rw [if_pos e2, if_pos (by omega)]; omega
        · rw [if_neg e2, if_neg (by omega)]; omega
    · rw [if_neg h, List.append_nil]
      by_cases e : k = s
      · subst e
        rw [if_pos (by omega), if_neg (by omega)]
        omega
      · by_cases e2 : s < k
        · rw [if_pos e2, if_pos (by omega)]; omega
        · rw [if_neg e2, if_neg (by omega)]; omega
theorem max_need {f : Nat → Nat} (h : Sound f) (k : Nat) : maxL (k + 1) (slotsF f) = needC f k := by
  unfold slotsF needC
  rw [maxL_slots, ← slotsTo_top]
  have := h.top
  unfold slotsF at this
  rw [← this]
  omega
theorem use_need (f : Nat → Nat) (k : Nat) : useL f k (slotsF f) = usedF f - oldN f k := by
  have := useL_slots f k (cnt f)
  unfold slotsF usedF oldN
  omega
theorem setP_code {f : Nat → Nat} (h : Sound f) (k : Nat) (hk : k < 40) {d : List Nat} (h1 : 1 ≤ d.length) (h2 : d.length ≤ 64) : (setP f (k : Nat) d).1 = if 16 + 4 * needC f k + (usedF f - oldN f k) + d.length ≤ 448 then 0 else 92 := by
  unfold setP
  rw [if_pos ⟨by omega, by omega, h1, h2⟩, Int.toNat_natCast]
  by_cases q : 448 < 16 + 4 * needC f k + (usedF f - oldN f k) + d.length
  · rw [if_pos q, if_neg (by omega)]
  · rw [if_neg q, if_pos (by omega)]
set_option maxHeartbeats 8000000 in
theorem fitsLaw_any (n : Nat) (hn : n < 4294967296) (A : Option Addr) (c : Nat) (l : List OpP) (sl : Nat) (hsl8 : sl < 256) (A2 : Option Addr) (c2 : Nat) (d : List Nat) (w : World) (h : OpsAt w w.heap.size A l) (hd : Bytes w w.heap.size A2 d) :
    Calls Try.prog 3 #[.int .u32 n, .slice A l.length c, .int .u8 sl, .slice A2 d.length c2] w (TrueB w) := by
  have hsm := ops_small h
  go_enter Try.func3, Try.ntmps3
  go_wp2_with fail
  refine (heavy_any A c l w.heap.size w h).mono ?_
  rintro e w1 ⟨⟨r, rfl, hr⟩, rfl⟩
  cases r with
  | true =>
    clear hr h hd
    go_wp2_with fail
    refine (known_any _).mono ?_
    rintro e w1 ⟨rfl, b1⟩
    go_wp2
    go_ret
    exact ⟨rfl, b1⟩
  | false =>
    obtain ⟨hlen, hlight⟩ := hr rfl
    clear hr
    rcases Nat.lt_or_ge d.length 1 with hfl | hfl
    · have t1 : decide ((d.length : Int) < 1) = true := by rw [decide_eq_true_iff]; omega
      clear h hd hlight
      go_wp2_with fail
      refine (known_any _).mono ?_
      rintro e w1 ⟨rfl, b1⟩
      go_wp2
      go_ret
      exact ⟨rfl, b1⟩
    have t1 : decide ((d.length : Int) < 1) = false := by rw [decide_eq_false_iff_not]; omega
    rcases Nat.lt_or_ge 64 d.length with hfl2 | hfl2
    · have t2 : decide ((64 : Int) < (d.length : Int)) = true := by rw [decide_eq_true_iff]; omega
      clear h hd hlight
      go_wp2_with fail
      refine (known_any _).mono ?_
      rintro e w1 ⟨rfl, b1⟩
      go_wp2
      go_ret
      exact ⟨rfl, b1⟩
    have t2 : decide ((64 : Int) < (d.length : Int)) = false := by rw [decide_eq_false_iff_not]; omega
    go_wp2_with fail
    refine (known_any _).mono ?_
    rintro e w1 ⟨rfl, b1⟩
    go_wp2_with fail
    refine (run_any n hn A c l w.heap.size w1 (h.below b1) b1.size hlen).mono ?_
    rintro e w2 ⟨gp, rfl, hg1, hp2, b2⟩
    have bw2 := b1.trans (b2.mono b1.size)
    have hgp : w.heap.size ≤ gp := by have := b1.size; omega
    obtain ⟨hS, -⟩ := runF_sound n l hsm
    clear b1 b2 h hsm hlight
    generalize runF n l = f at *
    obtain ⟨m, hm⟩ : ∃ m, sl % 40 = m := ⟨_, rfl⟩
    have r1 : (sl : Int) % 40 = (m : Int) := by omega
    have r2 : Int.tmod (sl : Int) 40 = (m : Int) := by rw [Int.tmod_eq_emod_of_nonneg (by omega)]; exact r1
    have hm40 : m < 40 := by omega
    clear hm
    have cS := slots_any hp2 hS.ok
    have hmem : ∀ s ∈ slotsF f, s < cnt f ∧ 0 < lenN f s := fun s hs => slotsTo_mem hs
    have hsl : (slotsF f).length ≤ cnt f := slotsTo_len f _
    have hc40 := hS.ok.c40
    have hmx := max_need hS m
    have hus := use_need f m
    have hub := usedTo_le f (cnt f) fun s hs => (hS.ok.fit hs).2.2
    rw [show usedTo f (cnt f) = usedF f from rfl] at hub
    have hnc : needC f m ≤ 40 := by unfold needC; omega
    have hle64 := fun s (hs : s < cnt f) => (hS.ok.fit hs).2.2
    have HPL := Lib.hid (And.intro hmx hus)
    clear hmx hus
    generalize slotsF f = ss at *
    obtain ⟨q, hq⟩ : ∃ q, ss.length = q := ⟨_, rfl⟩
    have HQ := Lib.hid hq
    go_wp2_with fail
    refine cS.mono ?_
    rintro e w4 ⟨A5, n5, rfl, o5, b5⟩
    rw [hq] at o5 ⊢
    have hp4 := hp2.below b5
    have bw4 := bw2.trans (b5.mono bw2.size)
    have hw4 := bw4.size
    clear cS b5 bw2 hp2 hq
    go_wp2_with fail
    go_loopw [12, 13, 14, 15, 16] (fun x u i _ _ wr => ∃ k : Nat, k ≤ q ∧ i = .int .i64 k ∧ x = .int .i64 (maxL (m + 1) (ss.take k) : Nat) ∧ u = .int .i64 (useL f m (ss.take k) : Nat) ∧ useL f m (ss.take k) ≤ 64 * k ∧ maxL (m + 1) (ss.take k) ≤ 40 ∧ Below w4.heap.size w4 wr) (fun _ _ i _ _ _ => q - (intOf i).toNat)
    case atStart => exact ⟨0, Nat.zero_le _, rfl, rfl, rfl, Nat.le_refl _, (by show m + 1 ≤ 40; omega), Below.refl _ _⟩
    case round =>
      obtain ⟨k, hk, rfl, rfl, rfl, hu64, hmx40, hb⟩ := hrel
      have hwr := hb.size
      have hpr := hp4.below hb
      have o5r := kept_below hb o5
      rcases Nat.lt_or_ge k q with hlt | hge
      · have e1 : decide ((k : Int) < (q : Int)) = true := by rw [decide_eq_true_iff]; omega
        have e2 : (0 : Int) ≤ (k : Int) := by omega
        have e3 : (k : Int) < (q : Int) := by omega
        have hkL : k < ss.length := by rw [HQ.out]; exact hlt
        obtain ⟨b, rfl, hb1, hb2⟩ := own_pos o5r (by omega)
        have hc := (o5r.cellAt k (by omega)).trans (by rw [List.getElem?_map, List.getElem?_eq_getElem hkL]; rfl : (ss.map intV)[k]? = some (intV ss[k]))
        have hs := hmem _ (List.getElem_mem hkL)
        have htk : ss.take (k + 1) = ss.take k ++ [ss[k]] := List.take_succ_eq_append_getElem hkL
        have n1 := maxL_snoc (m + 1) (ss.take k) ss[k]
        have n2 := useL_snoc f m (ss.take k) ss[k]
        rw [← htk] at n1 n2
        have cG := get_page hpr hS ((ss[k] : Nat) : Int)
        rw [getP_nat] at cG
        have hdl : (dat f ss[k]).length = lenN f ss[k] := (dat_length _ _).trans (oldN_in hs.1)
        have h64 := hle64 _ hs.1
        unfold intV at hc
        generalize ss[k] = s at *
        generalize dat f s = dl at *
        generalize lenN f s = y at *
        generalize useL f m (ss.take k) = u at *
        generalize maxL (m + 1) (ss.take k) = x at *
        have N := Lib.hid (And.intro n1 n2)
        have HB := Lib.hid hb
        clear n1 n2 htk hpr o5r hb
        go_wp2_with fail
        refine cG.mono ?_
        rintro e w5 ⟨A6, n6, rfl, o6, b6, s6⟩
        have hc5 := (b6.cell (p := ⟨b, k, none⟩) hb2).trans hc
        rw [hdl]
        have hb6 := Lib.hid (HB.out.trans (b6.mono hwr))
        clear cG o6 s6 b6 hc hdl
        go_upto_if 67 with (fail)
        go_cut [13] (fun s13 wx => w5 = wx ∧ s13 = .int .i64 ((if s = m then u else u + y : Nat)))
        case first =>
          by_cases e : s = m
          · subst e
            have z1 : ((s : Int) != (s : Int)) = false := by simp
            go_wp2
            go_meet
            case rel => exact ⟨rfl, by simp⟩
          · have z1 : ((s : Int) != (m : Int)) = true := by rw [bne_iff_ne]; omega
            have HE := Lib.hid e
            clear e
            go_wp2
            go_meet
            case rel => exact ⟨rfl, by rw [if_neg HE.out]; go_num⟩
        case rest =>
          obtain ⟨rfl, rfl⟩ := hcut
          have hun : (if s = m then u else u + y) ≤ 64 * (k + 1) := by split <;> omega
          have HUN := Lib.hid (And.intro hun N.out.2)
          clear hun
          generalize (if s = m then u else u + y) = u2 at *
          rcases Nat.lt_or_ge x (s + 1) with z | z
          · have z1 : ¬ ((s : Int) + 1 ≤ (x : Int)) := by omega
            have z2 : (x : Int) < (s : Int) + 1 := by omega
            have z3 : (x : Int) ≤ (s : Int) + 1 := by omega
            have hx2 : max x (s + 1) = s + 1 := by omega
            have HX := Lib.hid hx2
            clear hx2
            go_wp2
            go_roundw
            case rel => exact ⟨k + 1, by omega, by go_num, by rw [N.out.1, HX.out]; go_num, by rw [HUN.out.2], by rw [HUN.out.2]; exact HUN.out.1, by rw [N.out.1, HX.out]; omega, hb6.out⟩
            case measure => simp [intOf]; omega
          · have z1 : (s : Int) + 1 ≤ (x : Int) := by omega
            have hx2 : max x (s + 1) = x := by omega
            have HX := Lib.hid hx2
            clear hx2
            go_wp2
            go_roundw
            case rel => exact ⟨k + 1, by omega, by go_num, by rw [N.out.1, HX.out], by rw [HUN.out.2], by rw [HUN.out.2]; exact HUN.out.1, by rw [N.out.1, HX.out]; exact hmx40, hb6.out⟩
            case measure => simp [intOf]; omega
      · obtain rfl : k = q := by omega
        have e1 : decide ((k : Int) < (k : Int)) = false := by rw [decide_eq_false_iff_not]; omega
        rw [List.take_of_length_le (by rw [HQ.out]; omega), HPL.out.1, HPL.out.2] at *
        have hbw := bw4.trans (hb.mono hw4)
        have cA := set_any hpr hS (m : Nat) A2 c2 d (in_args (w' := wr) (hd.below hbw) hgp hbw.size)
        have hco := setP_code hS m hm40 hfl hfl2
        clear o5r hp4 o5 hmem hle64
        obtain ⟨x, hx⟩ : ∃ x, needC f m = x := ⟨_, rfl⟩
        obtain ⟨u, hu⟩ : ∃ u, usedF f - oldN f m = u := ⟨_, rfl⟩
        rw [hx, hu] at hco ⊢
        rw [hx] at hnc
        have hu2 : u ≤ 2560 := by omega
        clear hx hu hu64 hmx40 hub
        obtain ⟨y, hy⟩ : ∃ y, d.length = y := ⟨_, rfl⟩
        rw [hy] at hco hfl hfl2 cA ⊢
        have hfinw : ∀ w5, PgPost gp (setP f (m : Nat) d).2 wr w5 → Below w.heap.size w w5 := fun w5 hP => hbw.trans (hP.2.below hbw.size fun b e => by omega)
        have HFW := Lib.hid hfinw
        obtain ⟨co, hcoe⟩ : ∃ co, (setP f (m : Nat) d).1 = co := ⟨_, rfl⟩
        rw [hcoe] at hco cA
        clear hfinw hcoe hpr hb hbw hd hy t1 t2
        by_cases hfit : 16 + 4 * x + u + y ≤ 448
        · rw [if_pos hfit] at hco
          subst hco
          have z1 : (16 : Int) + 4 * (x : Int) + (u : Int) + (y : Int) ≤ 448 := by omega
          go_wp2_with fail
          refine cA.mono ?_
          rintro e w5 ⟨rfl, hP⟩
          have F := Lib.hid (HFW.out w5 hP)
          clear cA hP
          go_wp2
          go_ret
          exact ⟨by simp [z1], F.out⟩
        · rw [if_neg hfit] at hco
          subst hco
          have z1 : (448 : Int) < (16 : Int) + 4 * (x : Int) + (u : Int) + (y : Int) := by omega
          go_wp2_with fail
          refine cA.mono ?_
          rintro e w5 ⟨rfl, hP⟩
          have F := Lib.hid (HFW.out w5 hP)
          clear cA hP
          go_wp2
          go_ret
          exact ⟨by simp; omega, F.out⟩
theorem pageFits_walk (v0 v1 v2 v3 : Value) (w : World) (w0 : IsInt .u32 w v0) (w1 : IsOps w v1) (w2 : IsInt .u8 w v2) (w3 : IsBytes w v3) :
    Calls Try.prog 3 #[v0, v1, v2, v3] w fun e w' => e = .returned (.bool true) ∧ Below w.heap.size w w' := by
  obtain ⟨a, rfl, ha⟩ := w0
  obtain ⟨n, rfl, hn⟩ := nat_u32 ha
  obtain ⟨A, c, l, rfl, h⟩ := w1
  obtain ⟨s, rfl, hs⟩ := w2
  obtain ⟨sl, rfl, hsl⟩ := nat_u8 hs
  obtain ⟨A2, c2, d, rfl, _, _, hd⟩ := w3
  exact fitsLaw_any n hn A c l sl hsl A2 c2 d w h hd
end Go.Proofs.Ytkknfccfgmflmaa
