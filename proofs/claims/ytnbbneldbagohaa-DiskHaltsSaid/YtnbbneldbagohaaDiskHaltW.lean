/- The law DiskHalts. Conditions: none. -/
import Derived.Test.YtnbbneldbagohaaDiskHaltP
namespace Go.Proofs.Ytnbbneldbagohaa
open Go.ChangeShapes Go.WideShapes Go.ChangeAt Go.RowKit
set_option linter.unusedVariables false
set_option linter.unusedSimpArgs false
set_option maxRecDepth 20000

def TrueBelow2 (w : World) (e : Ending) (w' : World) : Prop := e = .returned (.bool true) ∧ Below w.heap.size w w'
set_option maxHeartbeats 8000000 in
theorem halts_any (A : Option Addr) (c : Nat) (l : List OpP) (n : Nat) (hn : n < 256) (A' : Option Addr) (c' : Nat) (fs : List FateP) (w : World) (h : OpsAt w w.heap.size A l) (hfs : FatesAt w w.heap.size A' fs) :
    Calls Try.prog 4 #[.slice A l.length c, .int .u8 n, .slice A' fs.length c'] w (TrueBelow2 w) := by
  go_enter Try.func4, Try.ntmps4
  go_wp2_with fail
  refine (heavy_any 8 8 A c l w.heap.size w h).mono ?_
  rintro e w1 ⟨⟨r, rfl, hr⟩, rfl⟩
  cases r with
  | true =>
    clear hr h hfs
    go_wp2_with fail
    refine (known_any _).mono ?_
    rintro e w1 ⟨rfl, b1⟩
    go_wp2
    go_ret
    exact ⟨rfl, b1⟩
  | false =>
    obtain ⟨-, -, hlen, hlight⟩ := hr rfl
    clear hr
    rcases Nat.lt_or_ge 60 fs.length with hfl | hfl
    · have t1 : decide ((60 : Int) < (fs.length : Int)) = true := by rw [decide_eq_true_iff]; omega
      clear h hfs hlight
      go_wp2_with fail
      refine (known_any _).mono ?_
      rintro e w1 ⟨rfl, b1⟩
      go_wp2
      go_ret
      exact ⟨rfl, b1⟩
    have t1 : decide ((60 : Int) < (fs.length : Int)) = false := by rw [decide_eq_false_iff_not]; omega
    go_wp2_with fail
    refine (known_any _).mono ?_
    rintro e w1 ⟨rfl, b1⟩
    go_wp2_with fail
    refine (new_any 8 8 w1).mono ?_
    rintro e w2 ⟨h2, -, b2⟩
    obtain ⟨p1, rfl, hd1⟩ := h2 ⟨⟨by omega, by omega⟩, ⟨by omega, by omega⟩⟩
    have hA := Dv.start (w0 := w) hd1 b1.size
    generalize hF1 : (fun x => w1.heap.size ≤ x ∧ x < w2.heap.size) = F1 at *
    clear h2 hd1 hF1
    have bw2 := b1.trans (b2.mono b1.size)
    obtain ⟨gp1, _, _, _, rfl, -⟩ := hA.dev
    go_wp2_with fail
    refine (new_any 8 8 w2).mono ?_
    rintro e w3 ⟨h3, -, b3⟩
    obtain ⟨p2, rfl, hd2⟩ := h3 ⟨⟨by omega, by omega⟩, ⟨by omega, by omega⟩⟩
    have hB := Dv.start (w0 := w) hd2 bw2.size
    have hdis : ∀ x, F1 x → (fun x => w2.heap.size ≤ x ∧ x < w3.heap.size) x → False := fun x q z => by have := hA.hi x q; omega
    generalize (fun x => w2.heap.size ≤ x ∧ x < w3.heap.size) = F2 at *
    have h2v : Dv2 (DevP.new 8 8) (DevP.new 8 8) w w3 F1 F2 _ _ := ⟨hA.below b3, hB, hdis⟩
    have hgd : (DevP.new 8 8).good 0 := DevP.good_new (by omega) (by omega)
    clear h3 hd2 hA hB hdis
    have bw3 := bw2.trans (b3.mono bw2.size)
    obtain ⟨gp2, _, _, _, rfl, -⟩ := h2v.b.dev
    clear b1 b2 b3 bw2
    obtain ⟨m, hm⟩ : ∃ m, n % 40 = m := ⟨_, rfl⟩
    have r1 : (n : Int) % 40 = (m : Int) := by omega
    have r2 : Int.tmod (n : Int) 40 = (m : Int) := by rw [Int.tmod_eq_emod_of_nonneg (by omega)]; exact r1
    have hm40 : m < 40 := by omega
    have hht := haltd_any h2v.a.dev h2v.a.hi (m : Int) (by omega)
    have hHa : Ha ((DevP.new 8 8).halt (m : Int)) (DevP.new 8 8) (m : Int) := Ha.start _ rfl rfl (fun n hn => by rcases (show n = 0 ∨ n = 1 from by omega) with rfl | rfl <;> rfl)
    have hgd1 : ((DevP.new 8 8).halt (m : Int)).good 0 := hgd
    clear hm
    go_wp2_with fail
    refine hht.mono ?_
    rintro e w4 ⟨rfl, hp4⟩
    obtain ⟨h4v, b4⟩ := h2v.postA bw3.size hp4
    have bw4 := bw3.trans (b4.mono (Nat.le_refl _))
    generalize grow F1 w3 w4 = F1' at *
    clear hht h2v hp4 b4 bw3
    go_wp2_with fail
    go_loopw [10, 9, 11, 12] (fun i lf _ _ wr => ∃ (k : Nat) (lv : Int) (DA DB : DevP) (F1 F2 : Nat → Prop), k ≤ l.length ∧ i = .int .i64 k ∧ lf = .int .i64 lv ∧ -(k : Int) ≤ lv ∧ lv ≤ 40 ∧ Dv2 DA DB w wr F1 F2 (.pointer (some ⟨gp1, 0, none⟩)) (.pointer (some ⟨gp2, 0, none⟩)) ∧ Ha DA DB lv ∧ DA.good k ∧ DB.good k ∧ Below w.heap.size w wr) (fun i _ _ _ _ => l.length - (intOf i).toNat)
    case atStart => exact ⟨0, (m : Int), _, _, F1', F2, by omega, rfl, rfl, by omega, by omega, h4v, hHa, hgd1, hgd, bw4⟩
    case round =>
      clear h4v hHa hgd1 hgd bw4
      obtain ⟨k, lv, DA, DB, F1, F2, hk, rfl, rfl, hlv1, hlv2, hD, hHa, hga, hgb, hb⟩ := hrel
      have hwr := hb.size
      rcases Nat.lt_or_ge k l.length with hlt | hge
      · have e1 : decide ((k : Int) < (l.length : Int)) = true := by rw [decide_eq_true_iff]; omega
        have e2 : (0 : Int) ≤ (k : Int) := by omega
        have e3 : (k : Int) < (l.length : Int) := by omega
        obtain ⟨b, o, v0, v1, v2, v3, v4, rfl, hbB, c0, c1, c2, c3, c4, hv⟩ := (h.below hb) k hlt
        have hv' := hv
        generalize l[k] = x at *
        obtain ⟨rfl, rfl, rfl, ⟨A3, n3, rfl, -, -⟩, ⟨A4, n4, rfl, -⟩, hx1, hx2, -⟩ := hv'
        have kb := Blk.new wr 41 #[.int .u8 x.kind, .int .u8 x.file, .int .i64 x.sector, .slice A3 x.data.length n3, .slice A4 x.fates.length n4]
        have a0 := (Below.refl wr.heap.size wr).alloc (Nat.le_refl _) (.cells #[.int .u8 x.kind, .int .u8 x.file, .int .i64 x.sector, .slice A3 x.data.length n3, .slice A4 x.fates.length n4] 41)
        have hD0 := hD.below a0
        have hv0 := hv.below (a0.mono hwr)
        have hnb1 : ¬ F1 wr.heap.size := fun q => by have := hD.a.hi _ q; omega
        have hb0 := hb.trans (a0.mono hwr)
        clear hD hv hb hlight
        obtain ⟨m9, hm9⟩ : ∃ m, x.kind % 9 = m := ⟨_, rfl⟩
        have s1 : (x.kind : Int) % 9 = (m9 : Int) := by omega
        have s2 : Int.tmod (x.kind : Int) 9 = (m9 : Int) := by rw [Int.tmod_eq_emod_of_nonneg (by omega)]; exact s1
        have hm9' : m9 < 9 := by omega
        have HM9 := Lib.hid hm9
        clear hm9
        by_cases h68 : m9 = 6 ∨ m9 = 8
        · rcases h68 with rfl | rfl
          all_goals
            go_upto_region 13 with fail
            generalize World.alloc wr _ = wa at *
            have q0 := kb.cell 0
            clear kb
            go_wp2
            go_roundw
            case rel => exact ⟨k + 1, lv, DA, DB, F1, F2, by omega, by go_num, rfl, by omega, hlv2, hD0, hHa, hga.mono (Nat.le_succ k), hgb.mono (Nat.le_succ k), hb0⟩
            case measure => simp [intOf]; omega
        · have u6 : ((m9 : Int) == 6) = false := by rw [beq_eq_false_iff_ne]; omega
          have u8 : ((m9 : Int) == 8) = false := by rw [beq_eq_false_iff_ne]; omega
          clear h68
          go_upto_region 13 with fail
          generalize World.alloc wr _ = wa at *
          have q0 := kb.cell 0
          have q1 := kb.cell 1
          have q2 := kb.cell 2
          have q3 := kb.cell 3
          have q4 := kb.cell 4
          go_upto_region 14 with fail
          go_cut [12] (fun s wx => wa = wx ∧ s = .bool (decide (m9 = 5) && decide (x.file < 2)))
          case first =>
            by_cases h5 : m9 = 5
            · subst h5
              by_cases hf2 : x.file < 2
              · have u5 : decide ((x.file : Int) < 2) = true := by rw [decide_eq_true_iff]; omega
                have HF2 := Lib.hid hf2
                clear hf2
                go_wp2
                go_meet
                case rel => exact ⟨rfl, by simp [HF2.out]⟩
              · have u5 : decide ((x.file : Int) < 2) = false := by rw [decide_eq_false_iff_not]; omega
                have HF2 := Lib.hid hf2
                clear hf2
                go_wp2
                go_meet
                case rel => exact ⟨rfl, by simp [HF2.out]⟩
            · have u5 : ((m9 : Int) == 5) = false := by rw [beq_eq_false_iff_ne]; omega
              have H5 := Lib.hid h5
              clear h5
              go_wp2
              go_meet
              case rel => exact ⟨rfl, by simp [H5.out]⟩
          case rest =>
            obtain ⟨rfl, rfl⟩ := hcut
            have hc5 : cntB x = (if m9 < 4 then decide (x.file < 2 ∧ 0 ≤ x.sector ∧ x.sector < 8 ∧ (m9 < 3 ∨ x.data.length = 128)) else (decide (m9 = 5) && decide (x.file < 2))) := by
              unfold cntB
              rw [HM9.out]
              by_cases z5 : m9 = 5
              · subst z5
                simp
              · rw [if_neg z5]
                by_cases z4 : m9 < 4
                · rw [if_pos z4, if_pos z4]
                · rw [if_neg z4, if_neg z4]
                  simp [z5]
            have HC5 := Lib.hid hc5
            clear hc5
            go_upto_if 79 with (fail)
            go_cut [12] (fun s wx => wa = wx ∧ s = .bool (cntB x))
            case first =>
              by_cases h4 : m9 < 4
              · have u4 : decide ((m9 : Int) < 4) = true := by rw [decide_eq_true_iff]; omega
                have hcc := HC5.out
                rw [if_pos h4] at hcc
                have HCC := Lib.hid hcc
                clear hcc
                by_cases hf2 : x.file < 2
                · have w1 : decide ((x.file : Int) < 2) = true := by rw [decide_eq_true_iff]; omega
                  by_cases hs0 : 0 ≤ x.sector
                  · have w2 : decide ((0 : Int) ≤ x.sector) = true := by rw [decide_eq_true_iff]; exact hs0
                    by_cases hs8 : x.sector < 8
                    · have w3 : decide (x.sector < 8) = true := by rw [decide_eq_true_iff]; exact hs8
                      by_cases h3 : m9 < 3
                      · have w4 : decide ((m9 : Int) < 3) = true := by rw [decide_eq_true_iff]; omega
                        have HV : Hid (cntB x = true) := by show _ = _; rw [HCC.out, decide_eq_true_iff]; exact ⟨hf2, hs0, hs8, .inl h3⟩
                        clear hf2 hs0 hs8 h3
                        go_wp2
                        go_meet
                        case rel => exact ⟨rfl, by rw [HV.out]⟩
                      · have w4 : decide ((m9 : Int) < 3) = false := by rw [decide_eq_false_iff_not]; omega
                        by_cases hl8 : x.data.length = 128
                        · have w5 : ((x.data.length : Int) == 128) = true := by rw [hl8]; rfl
                          have HV : Hid (cntB x = true) := by show _ = _; rw [HCC.out, decide_eq_true_iff]; exact ⟨hf2, hs0, hs8, .inr hl8⟩
                          clear hf2 hs0 hs8 h3 hl8
                          go_wp2
                          go_meet
                          case rel => exact ⟨rfl, by rw [HV.out]⟩
                        · have w5 : ((x.data.length : Int) == 128) = false := by rw [beq_eq_false_iff_ne]; omega
                          have HV : Hid (cntB x = false) := by show _ = _; rw [HCC.out, decide_eq_false_iff_not]; exact fun q => q.2.2.2.elim h3 hl8
                          clear hf2 hs0 hs8 h3 hl8
                          go_wp2
                          go_meet
                          case rel => exact ⟨rfl, by rw [HV.out]⟩
                    · have w3 : decide (x.sector < 8) = false := by rw [decide_eq_false_iff_not]; exact hs8
                      have HV : Hid (cntB x = false) := by show _ = _; rw [HCC.out, decide_eq_false_iff_not]; exact fun q => hs8 q.2.2.1
                      clear hf2 hs0 hs8
                      go_wp2
                      go_meet
                      case rel => exact ⟨rfl, by rw [HV.out]⟩
                  · have w2 : decide ((0 : Int) ≤ x.sector) = false := by rw [decide_eq_false_iff_not]; exact hs0
                    have HV : Hid (cntB x = false) := by show _ = _; rw [HCC.out, decide_eq_false_iff_not]; exact fun q => hs0 q.2.1
                    clear hf2 hs0
                    go_wp2
                    go_meet
                    case rel => exact ⟨rfl, by rw [HV.out]⟩
                · have w1 : decide ((x.file : Int) < 2) = false := by rw [decide_eq_false_iff_not]; omega
                  have HV : Hid (cntB x = false) := by show _ = _; rw [HCC.out, decide_eq_false_iff_not]; exact fun q => hf2 q.1
                  clear hf2
                  go_wp2
                  go_meet
                  case rel => exact ⟨rfl, by rw [HV.out]⟩
              · have u4 : decide ((m9 : Int) < 4) = false := by rw [decide_eq_false_iff_not]; omega
                have HV : Hid (cntB x = (decide (m9 = 5) && decide (x.file < 2))) := by
                  have := HC5.out
                  rw [if_neg h4] at this
                  exact this
                have u4' : (4 : Int) ≤ (m9 : Int) := by omega
                clear h4
                go_wp2
                go_meet
                case rel => exact ⟨rfl, by rw [HV.out]⟩
            case rest =>
              obtain ⟨rfl, rfl⟩ := hcut
              clear HC5 HM9 s1 s2 u6 u8
              have hpl := plays_any hD0.a.dev hD0.a.hi hga (by omega) hb0.size x (fun _ => hD0.a.lo) _ _ _ _ _ hv0
              cases hcn : cntB x with
              | false =>
                have hno := hHa.not hcn
                have hgb1 := hgb.mono (Nat.le_succ k)
                have hga1 := hga.mono (Nat.le_succ k)
                go_wp2_with fail
                refine hpl.mono ?_
                rintro e wp ⟨rfl, hp⟩
                rw [hno.1] at hp
                obtain ⟨hDp, bp⟩ := hD0.postA hb0.size hp
                have kbp := kb.only hp.2 hnb1
                have hvp := hv0.below bp
                have hbp := hb0.trans bp
                have p0 := kbp.cell 0
                have p1 := kbp.cell 1
                have p2 := kbp.cell 2
                have p3 := kbp.cell 3
                have p4 := kbp.cell 4
                clear hpl hp kb q0 q1 q2 q3 q4 hD0 bp kbp hb0
                generalize grow F1 wa wp = F1' at *
                have hpl2 := plays_any hDp.b.dev hDp.b.hi hgb (by omega) hbp.size x (fun _ => hDp.b.lo) _ _ _ _ _ hvp
                go_wp2_with fail
                refine hpl2.mono ?_
                rintro e wq ⟨rfl, hp2⟩
                rw [hno.2] at hp2
                obtain ⟨hDq, bq⟩ := hDp.postB hbp.size hp2
                have hbq := hbp.trans bq
                have hha := haltedd_any hDq.a.dev
                rw [hHa.hal] at hha
                clear hpl2 hp2 hDp bq hvp hno
                go_wp2_with fail
                refine hha.mono ?_
                rintro e wr2 ⟨rfl, rfl⟩
                clear hha
                go_wp2
                go_roundw
                case rel => exact ⟨k + 1, lv, DA, DB, _, _, by omega, by go_num, rfl, by omega, hlv2, hDq, hHa, hga1, hgb1, hbq⟩
                case measure => simp [intOf]; omega
              | true =>
                have hga1 := hga.plays x
                by_cases hlp : 0 < lv
                · have hgo := hHa.go hcn hlp
                  have hgb1 := hgb.plays x
                  have g1 : decide ((0 : Int) < lv) = true := by rw [decide_eq_true_iff]; exact hlp
                  have g2 : decide (lv - 1 < 0) = false := by rw [decide_eq_false_iff_not]; omega
                  go_wp2_with fail
                  refine hpl.mono ?_
                  rintro e wp ⟨rfl, hp⟩
                  obtain ⟨hDp, bp⟩ := hD0.postA hb0.size hp
                  have kbp := kb.only hp.2 hnb1
                  have hvp := hv0.below bp
                  have hbp := hb0.trans bp
                  have p0 := kbp.cell 0
                  have p1 := kbp.cell 1
                  have p2 := kbp.cell 2
                  have p3 := kbp.cell 3
                  have p4 := kbp.cell 4
                  clear hpl hp kb q0 q1 q2 q3 q4 hD0 bp kbp hb0
                  generalize grow F1 wa wp = F1' at *
                  have hpl2 := plays_any hDp.b.dev hDp.b.hi hgb (by omega) hbp.size x (fun _ => hDp.b.lo) _ _ _ _ _ hvp
                  go_wp2_with fail
                  refine hpl2.mono ?_
                  rintro e wq ⟨rfl, hp2⟩
                  obtain ⟨hDq, bq⟩ := hDp.postB hbp.size hp2
                  have hbq := hbp.trans bq
                  have hha := haltedd_any hDq.a.dev
                  rw [hgo.hal, g2] at hha
                  clear hpl2 hp2 hDp bq hvp
                  go_wp2_with fail
                  refine hha.mono ?_
                  rintro e wr2 ⟨rfl, rfl⟩
                  clear hha
                  go_wp2
                  go_roundw
                  case rel => exact ⟨k + 1, lv - 1, _, _, _, _, by omega, by go_num, by go_num, by omega, by omega, hDq, hgo, hga1, hgb1, hbq⟩
                  case measure => simp [intOf]; omega
                · have hgo := hHa.stop hcn (by omega)
                  have hgb1 := hgb.mono (Nat.le_succ k)
                  have g1 : decide ((0 : Int) < lv) = false := by rw [decide_eq_false_iff_not]; exact hlp
                  have g2 : decide (lv - 1 < 0) = true := by rw [decide_eq_true_iff]; omega
                  go_wp2_with fail
                  refine hpl.mono ?_
                  rintro e wp ⟨rfl, hp⟩
                  obtain ⟨hDp, bp⟩ := hD0.postA hb0.size hp
                  have hbp := hb0.trans bp
                  have hha := haltedd_any hDp.a.dev
                  rw [hgo.hal, g2] at hha
                  clear hpl hp kb q0 q1 q2 q3 q4 hD0 bp hb0
                  go_wp2_with fail
                  refine hha.mono ?_
                  rintro e wr2 ⟨rfl, rfl⟩
                  clear hha
                  go_wp2
                  go_roundw
                  case rel => exact ⟨k + 1, lv - 1, _, _, _, _, by omega, by go_num, by go_num, by omega, by omega, hDp, hgo, hga1, hgb1, hbp⟩
                  case measure => simp [intOf]; omega
      · obtain rfl : k = l.length := by omega
        have e1 : decide ((l.length : Int) < (l.length : Int)) = false := by rw [decide_eq_false_iff_not]; omega
        clear h hlight
        go_wp2_with fail
        go_loopw [13] (fun i wr => ∃ (k : Nat), k ≤ 2 ∧ i = .int .u8 k ∧ Dv2 DA DB w wr F1 F2 (.pointer (some ⟨gp1, 0, none⟩)) (.pointer (some ⟨gp2, 0, none⟩)) ∧ Below w.heap.size w wr) (fun i _ => 2 - (intOf i).toNat)
        case atStart => exact ⟨0, by omega, rfl, hD, hb⟩
        case round =>
          clear hD hb hwr
          obtain ⟨k, hk8, rfl, hD, hb⟩ := hrel
          have hwr := hb.size
          rcases Nat.lt_or_ge k 2 with hlt | hge
          · have e4 : decide ((k : Int) < 2) = true := by rw [decide_eq_true_iff]; omega
            have hwk : IntKind.u8.wrap ((k : Int) + 1) = (k : Int) + 1 := by rw [IntKind.wrap_u8]; omega
            have him := hHa.image k
            have cA := image_any hD.a.dev hga k (by omega)
            go_wp2_with fail
            refine cA.mono ?_
            rintro e w5 hret
            obtain ⟨A4, n4, L4, rfl, o4, r4, b4, at4, re4⟩ := hret.is
            have hD4 := hD.below b4
            have hb4 := hb.trans (b4.mono hwr)
            have cB := image_any hD4.b.dev hgb k (by omega)
            rw [← him] at cB
            clear hret cA o4 r4 hD hb him
            go_wp2_with fail
            refine cB.mono ?_
            rintro e w6 hret
            obtain ⟨A5, n5, L5, rfl, o5, r5, b5, at5, re5⟩ := hret.is
            have hD5 := hD4.below b5
            have hb5 := hb4.trans (b5.mono hb4.size)
            have at4' := (at4.below b5).more b5.size
            have re4' := (re4.below b5).more b5.size
            have hil : (DA.image k).length ≤ 100000 := by
              unfold DevP.image
              rw [if_pos hlt, List.length_map, hHa.len k hlt]
              omega
            have cS := blocks_any A4 A5 n4 n5 L4 L5 (DA.image k) (DA.image k) w6.heap.size w6 at4' at5 re4' re5 hil
            rw [decide_eq_true (show DA.image k = DA.image k from rfl)] at cS
            clear hret cB o5 r5 b5 b4 hD4 hb4 at4 re4 at4' re4' at5 re5 hil
            generalize DA.image k = im at *
            go_wp2_with fail
            refine cS.mono ?_
            rintro e w7 ⟨rfl, hd⟩
            have hD7 := hD5.below (hd.below w6.heap.size)
            have hb7 := hb5.trans ((hd.below w6.heap.size).mono hb5.size)
            clear cS hd hD5 hb5
            go_wp2
            go_roundw
            case rel => exact ⟨k + 1, by omega, by go_num, hD7, hb7⟩
            case measure => simp [intOf]; omega
          · obtain rfl : k = 2 := by omega
            have e4 : decide (((2 : Nat) : Int) < 2) = false := rfl
            have hA0 : ∀ b o, A' = some ⟨b, o, none⟩ → 0 < fs.length → b < w.heap.size := fun b o e h0 => by
              obtain ⟨b', o', e', hb', -⟩ := hfs.at_ (k := 0) h0
              rw [e] at e'
              injection e' with e'
              injection e' with e1 e2
              subst e1
              exact hb'
            have hfA : FatesAt wr wr.heap.size A' fs := ⟨(hfs.1.below hb).more hwr, hfs.2⟩
            have cA := crash_any hD.a.dev hD.a.hi hga (by omega) A' c' fs hfA (fun b o e h0 z => by have := hA0 b o e h0; have := hD.a.lo b z; omega) (by omega)
            go_wp2_with fail
            refine cA.mono ?_
            rintro e w5 ⟨rfl, hp5⟩
            obtain ⟨hD5, b5⟩ := hD.postA hwr hp5
            have hb5 := hb.trans b5
            have hfB : FatesAt w5 w5.heap.size A' fs := ⟨((hfs.1.below hb).below b5).more hb5.size, hfs.2⟩
            have cB := crash_any hD5.b.dev hD5.b.hi hgb (by omega) A' c' fs hfB (fun b o e h0 z => by have := hA0 b o e h0; have := hD5.b.lo b z; omega) (by omega)
            rw [← hHa.crash fs] at cB
            clear cA hp5 hD hb hfA
            generalize grow F1 wr w5 = F1' at *
            go_wp2_with fail
            refine cB.mono ?_
            rintro e w6 ⟨rfl, hp6⟩
            obtain ⟨hD6, b6⟩ := hD5.postB hb5.size hp6
            have hb6 := hb5.trans b6
            have hgc := hga.crash fs
            have hlc : ((DA.crash fs).f 0).length = 8 := by show (List.mapIdx _ _).length = 8; rw [List.length_mapIdx]; exact hHa.len 0 (by omega)
            have hlc1 : ((DA.crash fs).f 1).length = 8 := by show (List.mapIdx _ _).length = 8; rw [List.length_mapIdx]; exact hHa.len 1 (by omega)
            have hll : (DA.crash fs).left = none := rfl
            have hlh : (DA.crash fs).halted = false := rfl
            clear cB hp6 hD5 hb5 hfB hHa hga hgb
            generalize grow F2 w5 w6 = F2' at *
            generalize DA.crash fs = DC at *
            obtain ⟨hp1, hph⟩ := plays0 hll hlc
            have hgp := hgc.plays ⟨0, 0, 0, [1], []⟩
            have hlp0 := plays_length DC ⟨0, 0, 0, [1], []⟩ 0
            have hlp1 := plays_length DC ⟨0, 0, 0, [1], []⟩ 1
            rw [hlc] at hlp0
            rw [hlc1] at hlp1
            rw [hlh] at hph
            have mk : ∀ W : World, OpV (W.alloc (.cells #[.int .u8 1] 5)) (W.alloc (.cells #[.int .u8 1] 5)).heap.size ⟨0, 0, 0, [1], []⟩ (.int .u8 0) (.int .u8 0) (.int .i64 0) (.slice (some ⟨W.heap.size, 0, none⟩) 1 1) (.slice none 0 0) := fun W =>
              ⟨rfl, rfl, rfl, ⟨_, _, rfl, Nat.le_refl _, by rw [World.size_alloc]; exact Bytes.new W [1] 5 (0, 0) (fun y hy => by simp at hy; omega)⟩, ⟨none, 0, rfl, At.nil _ _ _, fun x hx => by cases hx⟩, by decide, by decide, by decide⟩
            have a7 := (Below.refl w6.heap.size w6).alloc (Nat.le_refl _) (.cells #[.int .u8 1] 5)
            have hD7 := hD6.below a7
            have hb7 := hb6.trans (a7.mono hb6.size)
            have cP := plays_any hD7.a.dev hD7.a.hi hgc (by omega) (Nat.le_refl _) ⟨0, 0, 0, [1], []⟩ (fun z => by simp at z) _ _ _ _ _ (mk w6)
            clear hD6 hb6 a7
            go_wp2_with fail
            refine cP.mono ?_
            rintro e w8 ⟨rfl, hp8⟩
            rw [hp1]
            generalize World.alloc w6 _ = w7 at *
            obtain ⟨hD8, b8⟩ := hD7.postA hb7.size hp8
            have hb8 := hb7.trans b8
            clear cP hp8 hD7 hb7 b8
            generalize grow F1' w7 w8 = F1'' at *
            have a9 := (Below.refl w8.heap.size w8).alloc (Nat.le_refl _) (.cells #[.int .u8 1] 5)
            have hD9 := hD8.below a9
            have hb9 := hb8.trans (a9.mono hb8.size)
            have cP := plays_any hD9.b.dev hD9.b.hi hgc (by omega) (Nat.le_refl _) ⟨0, 0, 0, [1], []⟩ (fun z => by simp at z) _ _ _ _ _ (mk w8)
            clear hD8 hb8 a9
            go_wp2_with fail
            refine cP.mono ?_
            rintro e w10 ⟨rfl, hp10⟩
            generalize World.alloc w8 _ = w9 at *
            obtain ⟨hD10, b10⟩ := hD9.postB hb9.size hp10
            have hb10 := hb9.trans b10
            clear cP hp10 hD9 hb9 b10 mk hp1 hgc
            generalize grow F2' w9 w10 = F2'' at *
            generalize (DC.plays ⟨0, 0, 0, [1], []⟩).2 = DP at *
            clear hlc hlc1 hll hlh
            -- both reads
            have cA := read_any hD10.a.dev hgp (by omega) 0 (by omega) 0
            go_wp2_with fail
            refine cA.mono ?_
            rintro e w11 ⟨A4, n4, rfl, o4, b4, s4⟩
            have hD11 := hD10.below b4
            have x4 := own_bytes o4 s4
            have hb11 := hb10.trans (b4.mono hb10.size)
            have cB := read_any hD11.b.dev hgp (by omega) 0 (by omega) 0
            clear cA o4 s4 b4 hD10 hb10
            go_wp2_with fail
            refine cB.mono ?_
            rintro e w12 ⟨A5, n5, rfl, o5, b5, s5⟩
            have hD12 := hD11.below b5
            have x5 := own_bytes o5 s5
            have x4' := (x4.below b5).more b5.size
            have hb12 := hb11.trans (b5.mono hb11.size)
            clear cB o5 s5 b5 hD11 hb11 x4
            generalize (DP.read 0 0).1 = rl at *
            generalize (DP.read 0 0).2 = rn at *
            have hha := haltedd_any hD12.a.dev
            rw [hph] at hha
            go_wp2_with fail
            refine hha.mono ?_
            rintro e w13 ⟨rfl, rfl⟩
            clear hha
            -- images of file 0
            have img : ∀ (n : Nat), n < 2 → (DP.image n).length ≤ 100000 := fun n hn => by
              unfold DevP.image
              rw [if_pos hn, List.length_map]
              rcases (show n = 0 ∨ n = 1 from by omega) with rfl | rfl
              · rw [hlp0]; omega
              · rw [hlp1]; omega
            have cA := image_any hD12.a.dev hgp 0 (by omega)
            go_wp2_with fail
            refine cA.mono ?_
            rintro e w14 hret
            obtain ⟨A6, n6, L6, rfl, -, -, b6, at6, re6⟩ := hret.is
            have hD14 := hD12.below b6
            have hb14 := hb12.trans (b6.mono hb12.size)
            have x4a := (x4'.below b6).more b6.size
            have x5a := (x5.below b6).more b6.size
            have cB := image_any hD14.b.dev hgp 0 (by omega)
            clear hret cA hD12 hb12 x4' x5 b6
            go_wp2_with fail
            refine cB.mono ?_
            rintro e w15 hret
            obtain ⟨A7, n7, L7, rfl, -, -, b7, at7, re7⟩ := hret.is
            have hD15 := hD14.below b7
            have hb15 := hb14.trans (b7.mono hb14.size)
            have x4b := (x4a.below b7).more b7.size
            have x5b := (x5a.below b7).more b7.size
            have cS := blocks_any A6 A7 n6 n7 L6 L7 (DP.image 0) (DP.image 0) w15.heap.size w15 ((at6.below b7).more b7.size) at7 ((re6.below b7).more b7.size) re7 (img 0 (by omega))
            rw [decide_eq_true (show DP.image 0 = DP.image 0 from rfl)] at cS
            clear hret cB hD14 hb14 x4a x5a b7 at6 re6 at7 re7
            go_wp2_with fail
            refine cS.mono ?_
            rintro e w16 ⟨rfl, hd⟩
            have hD16 := hD15.below (hd.below w15.heap.size)
            have hb16 := hb15.trans ((hd.below w15.heap.size).mono hb15.size)
            have x4c := (x4b.below (hd.below w15.heap.size)).more (Nat.le_of_eq hd.size.symm)
            have x5c := (x5b.below (hd.below w15.heap.size)).more (Nat.le_of_eq hd.size.symm)
            clear cS hd hD15 hb15 x4b x5b
            -- images of file 1
            have cA := image_any hD16.a.dev hgp 1 (by omega)
            go_wp2_with fail
            refine cA.mono ?_
            rintro e w17 hret
            obtain ⟨A6', n6', L6', rfl, -, -, b6, at6, re6⟩ := hret.is
            have hD17 := hD16.below b6
            have hb17 := hb16.trans (b6.mono hb16.size)
            have x4a := (x4c.below b6).more b6.size
            have x5a := (x5c.below b6).more b6.size
            have cB := image_any hD17.b.dev hgp 1 (by omega)
            clear hret cA hD16 hb16 x4c x5c b6
            go_wp2_with fail
            refine cB.mono ?_
            rintro e w18 hret
            obtain ⟨A7', n7', L7', rfl, -, -, b7, at7, re7⟩ := hret.is
            have hb18 := hb17.trans (b7.mono hb17.size)
            have x4b := (x4a.below b7).more b7.size
            have x5b := (x5a.below b7).more b7.size
            have cS := blocks_any A6' A7' n6' n7' L6' L7' (DP.image 1) (DP.image 1) w18.heap.size w18 ((at6.below b7).more b7.size) at7 ((re6.below b7).more b7.size) re7 (img 1 (by omega))
            rw [decide_eq_true (show DP.image 1 = DP.image 1 from rfl)] at cS
            clear hret cB hD17 hb17 x4a x5a b7 at6 re6 at7 re7
            go_wp2_with fail
            refine cS.mono ?_
            rintro e w19 ⟨rfl, hd⟩
            have hb19 := hb18.trans ((hd.below w18.heap.size).mono hb18.size)
            have x4c := (x4b.below (hd.below w18.heap.size)).more (Nat.le_of_eq hd.size.symm)
            have x5c := (x5b.below (hd.below w18.heap.size)).more (Nat.le_of_eq hd.size.symm)
            clear cS hd hb18 x4b x5b
            have cT := same_any A4 A5 n4 n5 rl rl w19.heap.size w19 x4c x5c
            rw [decide_eq_true (show rl = rl from rfl)] at cT
            go_wp2_with fail
            refine cT.mono ?_
            rintro e w20 ⟨rfl, rfl⟩
            clear cT
            go_wp2
            go_ret
            exact ⟨rfl, hb19⟩
theorem diskHalts_walk (v0 : Value) (v1 : Value) (v2 : Value) (w : World) (w0 : IsOps w v0) (w1 : IsInt .u8 w v1) (w2 : IsFates w v2) :
    Calls Try.prog 4 #[v0, v1, v2] w fun e w' => e = .returned (.bool true) ∧ Below w.heap.size w w' := by
  obtain ⟨A, c, l, rfl, h⟩ := w0
  obtain ⟨a, rfl, ha⟩ := w1
  obtain ⟨n, rfl, hn⟩ := nat_u8 ha
  obtain ⟨A', c', fs, rfl, hf⟩ := w2
  exact halts_any A c l n hn A' c' fs w h hf
end Go.Proofs.Ytnbbneldbagohaa
