/- The law PageEmpty. Conditions: none. -/
import Derived.Test.YtkknfccfgmflmaaPgL1
namespace Go.Proofs.Ytkknfccfgmflmaa
open Go.ChangeShapes Go.WideShapes Go.ChangeAt Go.RowKit
open NumMath
set_option linter.unusedVariables false
set_option linter.unusedSimpArgs false
set_option maxRecDepth 20000

theorem put_get (l : List Nat) (h : Small l) : putF l.length (getL l) = l := by
  induction l with
  | nil => rfl
  | cons b l ih =>
    have hb := h b (List.mem_cons_self ..)
    show (b + 256 * getL l) % 256 :: putF l.length ((b + 256 * getL l) / 256) = b :: l
    rw [show (b + 256 * getL l) % 256 = b by omega, show (b + 256 * getL l) / 256 = getL l by omega, ih fun x hx => h x (List.mem_cons_of_mem _ hx)]
theorem stmp_low {g h : Nat → Nat} (hs : ∀ i, g i < 256) {i : Nat} (hi : i < 8) : stmp h (rd g 0 8) i = g i := by
  have e : putF 8 (rd g 0 8) = cut g 0 8 := by
    have := put_get (cut g 0 8) (cut_small hs 0 8)
    rw [cut_length] at this
    exact this
  unfold stmp wr
  rw [e, upd_in h 0 (cut g 0 8) (Nat.zero_le _) (by rw [cut_length]; omega)]
  simp [cut]
theorem two_eq {g h : Nat → Nat} (hg : ∀ i, g i < 256) (hh : ∀ i, h i < 256) {a : Nat} (e : rd g a 2 = rd h a 2) {i : Nat} (h1 : a ≤ i) (h2 : i < a + 2) : g i = h i := by
  have e' : g a + 256 * (g (a + 1) + 256 * 0) = h a + 256 * (h (a + 1) + 256 * 0) := e
  have := hg a
  have := hh a
  rcases (show i = a ∨ i = a + 1 from by omega) with rfl | rfl
  · omega
  · omega
theorem empty_facts {g : Nat → Nat} (h : Sound g) (hd : ∀ t, dat g t = []) : cnt g = 0 ∧ lowN g = 448 ∧ freeI g = 432 := by
  have ho : oldN g = fun _ => 0 := oldN_of fun t => by rw [hd]; rfl
  have hc : cnt g = 0 := by
    rw [cnt_top h, ho]
    decide
  refine ⟨hc, ?_, ?_⟩
  · rw [h.low]
    unfold slotsF
    rw [hc]
    rfl
  · rw [free_eq h, ho]
    decide
theorem empty_eq {g : Nat → Nat} {n : Nat} (h : Sound g) (hd : ∀ t, dat g t = []) (hnum : ∀ i, 8 ≤ i → i < 12 → g i = newF n i) : cut (stmp (newF n) (rd g 0 8)) 0 448 = cut g 0 448 := by
  obtain ⟨hc, hl, -⟩ := empty_facts h hd
  obtain ⟨nc, nl⟩ := new_cnt n
  have hns : ∀ i, newF n i < 256 := (new_sound n).1.small
  have hout : ∀ i, 8 ≤ i → stmp (newF n) (rd g 0 8) i = newF n i := fun i hi => wr_out _ 0 8 _ (by omega)
  refine cut_congr fun i _ hi => ?_
  rcases Nat.lt_or_ge i 8 with q | q
  · exact stmp_low h.small q
  · rw [hout i q]
    rcases Nat.lt_or_ge i 12 with q2 | q2
    · exact (hnum i q q2).symm
    · rcases Nat.lt_or_ge i 16 with q3 | q3
      · rcases Nat.lt_or_ge i 14 with q4 | q4
        · exact two_eq hns h.small (a := 12) (nc.trans hc.symm) q2 q4
        · exact two_eq hns h.small (a := 14) (nl.trans hl.symm) q4 (by omega)
      · rw [new_big n q3]
        refine (h.zero i (by omega) (by omega) fun ⟨s, a, _⟩ => by omega).symm
set_option maxHeartbeats 8000000 in
theorem emptyLaw_any (n : Nat) (hn : n < 4294967296) (A : Option Addr) (c : Nat) (l : List OpP) (w : World) (h : OpsAt w w.heap.size A l) :
    Calls Try.prog 6 #[.int .u32 n, .slice A l.length c] w (TrueB w) := by
  have hsm := ops_small h
  go_enter Try.func6, Try.ntmps6
  go_wp2_with fail
  refine (heavy_any A c l w.heap.size w h).mono ?_
  rintro e w1 ⟨⟨r, rfl, hr⟩, rfl⟩
  cases r with
  | true =>
    clear hr h
    go_wp2_with fail
    refine (known_any _).mono ?_
    rintro e w1 ⟨rfl, b1⟩
    go_wp2
    go_ret
    exact ⟨rfl, b1⟩
  | false =>
    obtain ⟨hlen, hlight⟩ := hr rfl
    clear hr
    go_wp2_with fail
    refine (known_any _).mono ?_
    rintro e w1 ⟨rfl, b1⟩
    go_wp2_with fail
    refine (run_any n hn A c l w.heap.size w1 (h.below b1) b1.size hlen).mono ?_
    rintro e w2 ⟨gp, rfl, hg1, hp2, b2⟩
    have bw2 := b1.trans (b2.mono b1.size)
    have hsz1 := b1.size
    have hlt2 := hp2.lt
    go_wp2_with fail
    refine (new_any n hn w2).mono ?_
    rintro e w3 ⟨rfl, hq3, b3⟩
    have bw3 := bw2.trans (b3.mono bw2.size)
    have hp3 := hp2.below b3
    obtain ⟨gq, hgq⟩ : ∃ gq, w2.heap.size = gq := ⟨_, rfl⟩
    rw [hgq] at hq3 hlt2 ⊢
    have hne : gp ≠ gq := by omega
    have hgp : w.heap.size ≤ gp := by omega
    have hgq' : w.heap.size ≤ gq := by have := bw2.size; omega
    obtain ⟨hS, hnum⟩ := runF_sound n l hsm
    clear hp2 b1 b2 b3 bw2 h hsm hlight hgq
    generalize runF n l = f at *
    have cS := slots_any hp3 hS.ok
    have hmem : ∀ s ∈ slotsF f, s < cnt f ∧ 0 < lenN f s := fun s hs => slotsTo_mem hs
    have hin : ∀ s, s ∉ slotsF f → dat f s = [] := fun s hs => by
      refine List.eq_nil_of_length_eq_zero ?_
      rw [dat_length]
      unfold oldN
      split
      · rename_i q
        rcases Nat.eq_zero_or_pos (lenN f s) with y | y
        · exact y
        · exact absurd (slotsTo_iff.2 ⟨q, y⟩) hs
      · rfl
    have hpw := slotsTo_pair f (cnt f)
    rw [show slotsTo f (cnt f) = slotsF f from rfl] at hpw
    have hsl : (slotsF f).length ≤ cnt f := slotsTo_len f _
    have hc40 := hS.ok.c40
    generalize slotsF f = ss at *
    obtain ⟨m, hm⟩ : ∃ m, ss.length = m := ⟨_, rfl⟩
    have HM := Lib.hid hm
    go_wp2_with fail
    refine cS.mono ?_
    rintro e w4 ⟨A5, n5, rfl, o5, b5⟩
    rw [hm] at o5 ⊢
    have hp4 := hp3.below b5
    have hq4 := hq3.below b5
    have bw4 := bw3.trans (b5.mono bw3.size)
    have hbase := bw3.size
    have hgp3 := hp3.lt
    have hgq3 := hq3.lt
    clear cS b5 bw3 hp3 hq3 hm
    go_wp2_with fail
    go_loopw [8, 9, 10] (fun i _ _ wr => ∃ (k : Nat) (g : Nat → Nat), k ≤ m ∧ i = .int .i64 k ∧ PgAt wr gp g ∧ Sound g ∧ (∀ t, dat g t = if t ∈ ss.take k then [] else dat f t) ∧ (∀ i, i < 12 → g i = f i) ∧ PgAt wr gq (newF n) ∧ wr.ownsRow w3.heap.size 3 1 (.slice A5 m n5) m (ss.map intV) ∧ Below w.heap.size w wr) (fun i _ _ _ => m - (intOf i).toNat)
    case atStart => exact ⟨0, f, Nat.zero_le _, rfl, hp4, hS, (fun t => by rw [List.take_zero]; exact (if_neg (fun q => by cases q)).symm), fun _ _ => rfl, hq4, o5, bw4⟩
    case round =>
      clear hp4 hq4 o5 bw4
      obtain ⟨k, g, hk, rfl, hp, hSg, hdg, hhd, hq, o5, hb⟩ := hrel
      have hwr := hb.size
      rcases Nat.lt_or_ge k m with hlt | hge
      · have e1 : decide ((k : Int) < (m : Int)) = true := by rw [decide_eq_true_iff]; omega
        have e2 : (0 : Int) ≤ (k : Int) := by omega
        have e3 : (k : Int) < (m : Int) := by omega
        have hkL : k < ss.length := by rw [HM.out]; exact hlt
        obtain ⟨b, rfl, hb1, hb2⟩ := own_pos o5 (by omega)
        have hc := (o5.cellAt k (by omega)).trans (by rw [List.getElem?_map, List.getElem?_eq_getElem hkL]; rfl : (ss.map intV)[k]? = some (intV ss[k]))
        have hs := hmem _ (List.getElem_mem hkL)
        have htk : ss.take (k + 1) = ss.take k ++ [ss[k]] := List.take_succ_eq_append_getElem hkL
        have hnot : ss[k] ∉ ss.take k := fun hx => by
          obtain ⟨j, hj, e⟩ := List.mem_iff_getElem.1 hx
          rw [List.length_take] at hj
          rw [List.getElem_take] at e
          have := List.pairwise_iff_getElem.1 hpw j k (by omega) hkL (by omega)
          omega
        unfold intV at hc
        generalize ss[k] = s at *
        have hold : 0 < oldN g s := by
          rw [← dat_length, hdg, if_neg hnot, dat_length]
          show 0 < (if s < cnt f then lenN f s else 0)
          rw [if_pos hs.1]
          exact hs.2
        obtain ⟨q1, q2, q3⟩ := clearP_sound hSg (s : Nat)
        have cA := clear_any hp hSg (s : Nat)
        have hyes : (clearP g (s : Nat)).1 = true := by
          unfold clearP
          rw [if_pos (by omega), Int.toNat_natCast]
          exact decide_eq_true hold
        rw [hyes] at cA
        obtain ⟨g1, hg1'⟩ : ∃ g1, (clearP g (s : Nat)).2 = g1 := ⟨_, rfl⟩
        rw [hg1'] at cA q1 q2 q3
        have hold1 : oldN g1 s = 0 := by
          rw [← dat_length, q3, if_pos rfl]
          rfl
        have hno : clearP g1 (s : Nat) = (false, g1) := by
          unfold clearP
          rw [if_pos (by omega), Int.toNat_natCast, hold1]
          unfold clrF
          rw [hold1]
          rfl
        have hdn : ∀ t, dat g1 t = if t ∈ ss.take (k + 1) then [] else dat f t := fun t => by
          rw [q3, htk, hdg]
          by_cases e : t = s
          · subst e
            rw [if_pos rfl, if_pos (by simp)]
          · rw [if_neg (by omega)]
            by_cases e2 : t ∈ ss.take k
            · rw [if_pos e2, if_pos (by simp [e2])]
            · rw [if_neg e2, if_neg (by simp [e2, e])]
        have hhd1 : ∀ i, i < 12 → g1 i = f i := fun i hi => (q2 i hi).trans (hhd i hi)
        have hkeep : ∀ w5, PgPost gp g1 wr w5 → PgAt w5 gq (newF n) ∧ w5.ownsRow w3.heap.size 3 1 (.slice (some ⟨b, 0, none⟩) m n5) m (ss.map intV) ∧ Below w.heap.size w w5 ∧ w5.cell? ⟨b, k, none⟩ = some (.int .i64 s) := fun w5 hP =>
          ⟨hq.only hP.2 (fun e => hne e.symm), hP.2.own o5 (fun q e z => by have := (o5.lt q e).1; omega), hb.trans (hP.2.below hwr fun b e => by omega), (hP.2.cell (p := ⟨b, k, none⟩) hb2 (by show ¬ b = gp; omega)).trans hc⟩
        have HK := Lib.hid hkeep
        have HD := Lib.hid (And.intro hdn (And.intro hhd1 (And.intro q1 hno)))
        clear hkeep hdn hhd1 hdg hhd hold hno hold1 hyes hg1' hnot htk hp hq o5 hb q2 q3 hSg q1
        go_wp2_with fail
        refine cA.mono ?_
        rintro e w5 ⟨rfl, hP⟩
        have hK5 := HK.out w5 hP
        have c5 := hK5.2.2.2
        have cB := clear_any hP.1 HD.out.2.2.1 (s : Nat)
        rw [HD.out.2.2.2] at cB
        have HK5 := Lib.hid hK5
        have HP := Lib.hid hP
        clear cA hK5 hP hc
        go_wp2_with fail
        refine cB.mono ?_
        rintro e w6 ⟨rfl, hP6⟩
        have hK6 := HK.out w6 (HP.out.trans hP6)
        have F6 := Lib.hid (And.intro hP6.1 hK6)
        clear cB hP6 hK6
        go_wp2
        go_roundw
        case rel => exact ⟨k + 1, g1, by omega, by go_num, F6.out.1, HD.out.2.2.1, HD.out.1, HD.out.2.1, F6.out.2.1, F6.out.2.2.1, F6.out.2.2.2.1⟩
        case measure => simp [intOf]; omega
      · obtain rfl : k = m := by omega
        have e1 : decide ((k : Int) < (k : Int)) = false := by rw [decide_eq_false_iff_not]; omega
        rw [List.take_of_length_le (by rw [HM.out]; omega)] at hdg
        have hde : ∀ t, dat g t = [] := fun t => by
          rw [hdg]
          by_cases e : t ∈ ss
          · rw [if_pos e]
          · rw [if_neg e]; exact hin t e
        obtain ⟨-, -, hfr⟩ := empty_facts hSg hde
        have heq := empty_eq (n := n) hSg hde fun i h1 h2 => (hhd i h2).trans (hnum i h1 h2)
        have cL := lsn_any hp
        have hlt64 : rd g 0 8 < 18446744073709551616 := rd_lt hp.small 0 8
        have HEQ := Lib.hid heq
        clear heq hde hdg hin hmem hpw o5 hnum hhd
        generalize rd g 0 8 = v at *
        have cS := stmp_any hq v hlt64
        go_wp2_with fail
        refine cL.mono ?_
        rintro e w5 ⟨rfl, rfl⟩
        clear cL
        go_wp2_with fail
        refine cS.mono ?_
        rintro e w5 ⟨rfl, hP⟩
        have hp5 : PgAt w5 gp g := hp.only hP.2 hne
        have hb5 : Below w.heap.size w w5 := hb.trans (hP.2.below hwr fun b e => by omega)
        have hq5 := hP.1
        have cF := free_any hp5 hSg.ok
        rw [hfr] at cF
        clear cS hP hp hq hb
        go_wp2_with fail
        refine cF.mono ?_
        rintro e w6 ⟨rfl, rfl⟩
        have cA := bytes_any hp5
        clear cF
        go_wp2_with fail
        refine cA.mono ?_
        rintro e w6 ⟨A6, n6, rfl, o6, b6, s6⟩
        have x6 := own_bytes o6 s6
        have hb6 := hb5.trans (b6.mono hb5.size)
        have cB := bytes_any (hq5.below b6)
        rw [HEQ.out] at cB
        clear cA o6 s6 hp5 hq5 hb5 b6
        go_wp2_with fail
        refine cB.mono ?_
        rintro e w7 ⟨A7, n7, rfl, o7, b7, s7⟩
        have x7 := own_bytes o7 s7
        have x6' := (x6.below b7).more b7.size
        have hb7 := hb6.trans (b7.mono hb6.size)
        have cT := same_any A6 A7 n6 n7 _ _ w7.heap.size w7 x6' x7
        rw [decide_eq_true (show cut g 0 448 = cut g 0 448 from rfl)] at cT
        clear cB o7 s7 b7 hb6 x6 x6' x7
        generalize cut g 0 448 = ll at *
        go_wp2_with fail
        refine cT.mono ?_
        rintro e w8 ⟨rfl, rfl⟩
        clear cT
        go_wp2
        go_ret
        exact ⟨rfl, hb7⟩
theorem pageEmpty_walk (v0 v1 : Value) (w : World) (w0 : IsInt .u32 w v0) (w1 : IsOps w v1) :
    Calls Try.prog 6 #[v0, v1] w fun e w' => e = .returned (.bool true) ∧ Below w.heap.size w w' := by
  obtain ⟨a, rfl, ha⟩ := w0
  obtain ⟨n, rfl, hn⟩ := nat_u32 ha
  obtain ⟨A, c, l, rfl, h⟩ := w1
  exact emptyLaw_any n hn A c l w h
end Go.Proofs.Ytkknfccfgmflmaa
