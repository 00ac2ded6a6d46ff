/- page: the document's Set. Conditions: its page lies there, the data outside it; what is ahead of each step is as it must be. -/
import Derived.Test.YtkknfccfgmflmaaPgRefG
import Derived.Deep.DeepCutAuto
namespace Go.Proofs.Ytkknfccfgmflmaa
open Go.ChangeShapes Go.WideShapes Go.ChangeAt Go.RowKit
open NumMath
set_option linter.unusedVariables false
set_option linter.unusedSimpArgs false
set_option maxRecDepth 20000

/-- the page ahead of the last loop -/
def preR (r : RP) (k : Nat) (d : List Nat) : RP := if r.S k = d.length then r else { midR r k (max (topN r.S 40) (k + 1)) d with O := up1 (midR r k (max (topN r.S 40) (k + 1)) d).O k (lowS (midR r k (max (topN r.S 40) (k + 1)) d) 40 - d.length), S := up1 (midR r k (max (topN r.S 40) (k + 1)) d).S k d.length }
theorem setRR_pre (r : RP) (k : Nat) (d : List Nat) : setRR r k d = { preR r k d with B := upd (preR r k d).B ((preR r k d).O k) d } := by
  unfold setRR preR
  by_cases h : r.S k = d.length
  · rw [if_pos h, if_pos h]
  · rw [if_neg h, if_neg h]
    unfold putR
    have : up1 (midR r k (max (topN r.S 40) (k + 1)) d).O k (lowS (midR r k (max (topN r.S 40) (k + 1)) d) 40 - d.length) k = lowS (midR r k (max (topN r.S 40) (k + 1)) d) 40 - d.length := if_pos rfl
    simp only [this]
/-- what Set wants -/
def SetHyp (r : RP) (k : Nat) (d : List Nat) : Prop :=
  RFit (setRR r k d) ∧ (preR r k d).O k + d.length ≤ 448 ∧ (r.S k ≠ d.length → RFit (midR r k (max (topN r.S 40) (k + 1)) d) ∧ (lowS (clearR r k) 40 < 16 + 4 * max (topN r.S 40) (k + 1) + d.length → RFit (togR (clearR r k))) ∧ d.length ≤ lowS (midR r k (max (topN r.S 40) (k + 1)) d) 40 ∧ totN (clearR r k).S 40 ≤ 448)
def RSetPost (r : RP) (k : Nat) (d : List Nat) (gr : Nat) (w : World) (e : Ending) (w' : World) : Prop :=
  (448 < 16 + 4 * max (topN r.S 40) (k + 1) + allS r.S k 40 + d.length → e = .returned (.int .i64 92) ∧ w = w') ∧
  (16 + 4 * max (topN r.S 40) (k + 1) + allS r.S k 40 + d.length ≤ 448 → e = .returned (.int .i64 0) ∧ RPost gr (setRR r k d) w w')
section
variable {w : World} {gr : Nat} {r : RP}
theorem rset_bad (s : Int) (A : Option Addr) (c n : Nat) (w : World) (hb : ¬ (0 ≤ s ∧ s < 40 ∧ 1 ≤ n ∧ n ≤ 64)) (p : Value) :
    Calls Try.prog 44 #[p, .int .i64 s, .slice A n c] w fun e w' => e = .returned (.int .i64 91) ∧ w = w' := by
  by_cases h1 : s < 0
  · have t1 : decide (s < 0) = true := by rw [decide_eq_true_iff]; exact h1
    clear hb
    go_enter Try.func44, Try.ntmps44
    go_wp2
    go_ret
    exact ⟨rfl, rfl⟩
  have t1 : decide (s < 0) = false := by rw [decide_eq_false_iff_not]; exact h1
  by_cases h2 : 39 < s
  · have t2 : decide (39 < s) = true := by rw [decide_eq_true_iff]; exact h2
    clear hb h1
    go_enter Try.func44, Try.ntmps44
    go_wp2
    go_ret
    exact ⟨rfl, rfl⟩
  have t2 : decide (39 < s) = false := by rw [decide_eq_false_iff_not]; exact h2
  rcases Nat.eq_zero_or_pos n with h3 | h3
  · subst h3
    clear hb h1 h2
    go_enter Try.func44, Try.ntmps44
    go_wp2
    go_ret
    exact ⟨rfl, rfl⟩
  have t3 : decide ((n : Int) < 1) = false := by rw [decide_eq_false_iff_not]; omega
  have t4 : decide ((64 : Int) < (n : Int)) = true := by rw [decide_eq_true_iff]; omega
  clear hb h1 h2
  go_enter Try.func44, Try.ntmps44
  go_wp2
  go_ret
  exact ⟨rfl, rfl⟩
set_option maxHeartbeats 8000000 in
theorem rset_good (h : RAt w gr r) (k : Nat) (hk : k < 40) (A : Option Addr) (c : Nat) (d : List Nat) (hd1 : 1 ≤ d.length) (hd2 : d.length ≤ 64) (hb : BytesIn w (fun b => b ≠ gr) A d)
    (hset : 16 + 4 * max (topN r.S 40) (k + 1) + allS r.S k 40 + d.length ≤ 448 → SetHyp r k d) :
    Calls Try.prog 44 #[.pointer (some ⟨gr, 0, none⟩), .int .i64 k, .slice A d.length c] w (RSetPost r k d gr w) := by
  have cc := rcount_any h
  have ca := rall_any h k
  have hT := topN_le r.S 40
  have hal := allS_le r.S k 40 fun s hs => (h.fit s hs).2
  obtain ⟨n, hn⟩ : ∃ n, d.length = n := ⟨_, rfl⟩
  have HN := Lib.hid hn
  obtain ⟨T, hTe⟩ : ∃ T, topN r.S 40 = T := ⟨_, rfl⟩
  obtain ⟨al, hale⟩ : ∃ al, allS r.S k 40 = al := ⟨_, rfl⟩
  obtain ⟨m, hme⟩ : ∃ m, max T (k + 1) = m := ⟨_, rfl⟩
  have hset' := hset
  rw [hTe, hale, hme, hn] at hset'
  rw [hTe] at cc hT
  rw [hale] at ca hal
  have POST : ∀ e w', (448 < 16 + 4 * m + al + n → e = .returned (.int .i64 92) ∧ w = w') → (16 + 4 * m + al + n ≤ 448 → e = .returned (.int .i64 0) ∧ RPost gr (setRR r k d) w w') → RSetPost r k d gr w e w' := fun e w' a b => by
    unfold RSetPost
    rw [hTe, hale, hme, hn]
    exact ⟨a, b⟩
  have HPOST := Lib.hid POST
  rw [hn] at hd1 hd2 ⊢
  have hm1 : T ≤ m ∧ k + 1 ≤ m ∧ m ≤ 40 ∧ (m = T ∨ m = k + 1) := by omega
  have HM := Lib.hid (And.intro hTe (And.intro hale hme))
  clear hset hTe hale hme hn POST
  have t1 : decide ((k : Int) < 0) = false := by rw [decide_eq_false_iff_not]; omega
  have t2 : decide ((39 : Int) < (k : Int)) = false := by rw [decide_eq_false_iff_not]; omega
  have t3 : decide ((n : Int) < 1) = false := by rw [decide_eq_false_iff_not]; omega
  have t4 : decide ((64 : Int) < (n : Int)) = false := by rw [decide_eq_false_iff_not]; omega
  have e2 : (0 : Int) ≤ (k : Int) := by omega
  have e3 : (k : Int) < 40 := by omega
  go_enter Try.func44, Try.ntmps44
  go_upto_region 3 with (fail)
  go_cut [7] (fun s7 wx => s7 = .int .i64 m ∧ w = wx)
  case first =>
    clear hset' ca
    rcases Nat.lt_or_ge T (k + 1) with z | z
    · have z1 : ¬ ((k : Int) + 1 ≤ (T : Int)) := by omega
      have z2 : (T : Int) < (k : Int) + 1 := by omega
      have z3 : (T : Int) ≤ (k : Int) + 1 := by omega
      have z4 : m = k + 1 := by omega
      have Z4 := Lib.hid z4
      clear z4 hm1
      go_wp2_with fail
      refine cc.mono ?_
      rintro e w1 ⟨rfl, rfl⟩
      clear cc
      go_wp2
      go_meet
      case rel => exact ⟨by rw [Z4.out]; go_num, rfl⟩
    · have z1 : (k : Int) + 1 ≤ (T : Int) := by omega
      have z4 : m = T := by omega
      have Z4 := Lib.hid z4
      clear z4 hm1
      go_wp2_with fail
      refine cc.mono ?_
      rintro e w1 ⟨rfl, rfl⟩
      clear cc
      go_wp2
      go_meet
      case rel => exact ⟨by rw [Z4.out], rfl⟩
  case rest =>
    obtain ⟨rfl, rfl⟩ := hcut
    clear cc
    have v1 : IntKind.i64.wrap (4 * (m : Int)) = 4 * (m : Int) := by rw [IntKind.wrap_i64]; omega
    have v2 : IntKind.i64.wrap (16 + 4 * (m : Int)) = 16 + 4 * (m : Int) := by rw [IntKind.wrap_i64]; omega
    have v3 : IntKind.i64.wrap (16 + 4 * (m : Int) + (al : Int)) = 16 + 4 * (m : Int) + (al : Int) := by rw [IntKind.wrap_i64]; omega
    have v4 : IntKind.i64.wrap (16 + 4 * (m : Int) + (al : Int) + (n : Int)) = 16 + 4 * (m : Int) + (al : Int) + (n : Int) := by rw [IntKind.wrap_i64]; omega
    rcases Nat.lt_or_ge 448 (16 + 4 * m + al + n) with z | z
    · have z1 : decide ((448 : Int) < 16 + 4 * (m : Int) + (al : Int) + (n : Int)) = true := by rw [decide_eq_true_iff]; omega
      have Z := Lib.hid z
      clear hset' z hb h hm1
      go_wp2_with fail
      refine ca.mono ?_
      rintro e w1 ⟨rfl, rfl⟩
      clear ca
      go_wp2
      go_ret
      exact HPOST.out _ _ (fun _ => ⟨rfl, rfl⟩) (fun y => absurd Z.out (by omega))
    · have z1 : decide ((448 : Int) < 16 + 4 * (m : Int) + (al : Int) + (n : Int)) = false := by rw [decide_eq_false_iff_not]; omega
      obtain ⟨hf1, hf2, hf3⟩ := hset' z
      have Z := Lib.hid z
      clear hset' z
      have hm2 : m ≤ 40 := hm1.2.2.1
      clear hm1
      go_wp2_with fail
      refine ca.mono ?_
      rintro e w1 ⟨rfl, rfl⟩
      clear ca
      have hB := h.blk
      have cS := rpc_S hB hk
      go_upto_if 49 with (fail)
      go_cut [] (fun wx => Blk wx gr 70 (rpA (preR r k d)) ∧ Only (fun b => b = gr) w wx)
      case first =>
        clear HPOST hf1 hf2 hb
        by_cases hy : r.S k = n
        · have t5 : ((n : Int) == (n : Int)) = true := by rw [beq_iff_eq]
          have t6 : ((n : Int) != (n : Int)) = false := by rw [bne_eq_false_iff_eq]
          have hpre : preR r k d = r := if_pos (hy.trans HN.out.symm)
          have FIN : Hid (Blk w gr 70 (rpA (preR r k d)) ∧ Only (fun b => b = gr) w w) := Lib.hid ⟨by rw [hpre]; exact hB, Only.refl _ _⟩
          rw [hy] at cS ⊢
          clear hf3 h hB hpre hy
          go_wp2
          go_meet
          case rel => exact FIN.out
        · obtain ⟨g1, g2, g3, g4⟩ := hf3 (by rw [HN.out]; exact hy)
          have t6 : ((r.S k : Int) != (n : Int)) = true := by rw [bne_iff_ne]; omega
          have hpre : preR r k d = { midR r k (max (topN r.S 40) (k + 1)) d with O := up1 (midR r k (max (topN r.S 40) (k + 1)) d).O k (lowS (midR r k (max (topN r.S 40) (k + 1)) d) 40 - d.length), S := up1 (midR r k (max (topN r.S 40) (k + 1)) d).S k d.length } := if_neg (by rw [HN.out]; exact hy)
          have hmid : midR r k (max (topN r.S 40) (k + 1)) d = if lowS (clearR r k) 40 < 16 + 4 * max (topN r.S 40) (k + 1) + d.length then togR (clearR r k) else clearR r k := rfl
          rw [HM.out.1, HM.out.2.2, HN.out] at hpre hmid g2
          rw [HM.out.1, HM.out.2.2] at g1 g3
          rw [HN.out] at g3
          have cl := rclear_any h k
          generalize hdd : decide (0 < (getR r (k : Int)).length) = bb at cl
          have HPRE := Lib.hid hpre
          clear hf3 hpre hy hdd h
          generalize r.S k = y at *
          generalize midR r k m d = rm at *
          go_wp2_with fail
          refine cl.mono ?_
          rintro e w2 ⟨rfl, hp2⟩
          clear cl cS hB
          have cw := rlow_any hp2.1
          have hlw := lowS_le (clearR r k) 40
          have ct := fun hq => rtogether_any hp2.1 g4 (g2 hq)
          obtain ⟨lw, hlw2⟩ : ∃ lw, lowS (clearR r k) 40 = lw := ⟨_, rfl⟩
          rw [hlw2] at cw hlw ct hmid
          clear hlw2 g2 g4
          have x1 : IntKind.i64.wrap ((lw : Int) - 16) = (lw : Int) - 16 := by rw [IntKind.wrap_i64]; omega
          have x2 : IntKind.i64.wrap ((lw : Int) - 16 - 4 * (m : Int)) = (lw : Int) - 16 - 4 * (m : Int) := by rw [IntKind.wrap_i64]; omega
          go_wp2_with fail
          refine cw.mono ?_
          rintro e w3 ⟨rfl, rfl⟩
          clear cw
          go_upto_if 61 with (fail)
          go_cut [] (fun wx => RPost gr rm w wx)
          case first =>
            by_cases ht : lw < 16 + 4 * m + n
            · rw [if_pos ht] at hmid
              have y1 : decide ((lw : Int) - 16 - 4 * (m : Int) < (n : Int)) = true := by rw [decide_eq_true_iff]; omega
              have y2 : (lw : Int) - 16 - 4 * (m : Int) < (n : Int) := by omega
              have c1 := ct ht
              have HE := Lib.hid hmid
              clear ct ht hmid
              go_wp2_with fail
              refine c1.mono ?_
              rintro e w4 ⟨rfl, hp4⟩
              have FIN := Lib.hid (hp2.trans hp4)
              clear c1 hp4 hp2
              go_wp2
              go_meet
              case rel => rw [HE.out]; exact FIN.out
            · rw [if_neg ht] at hmid
              have y1 : decide ((lw : Int) - 16 - 4 * (m : Int) < (n : Int)) = false := by rw [decide_eq_false_iff_not]; omega
              have y2 : (n : Int) ≤ (lw : Int) - 16 - 4 * (m : Int) := by omega
              have FIN := Lib.hid hp2
              have HE := Lib.hid hmid
              clear ct ht hmid hp2
              go_wp2
              go_meet
              case rel => rw [HE.out]; exact FIN.out
          case rest =>
            have hp3 := hcut
            clear hcut hp2 ct hmid
            rename World => wx
            have hll := lowS_le rm 40
            have cw := rlow_any (w := wx.drew) ⟨hp3.1.toRFit, hp3.1.blk.drew⟩
            have f1 := hp3.1.blk.frozen (2 + k)
            have c1 := rpc_O hp3.1.blk hk
            obtain ⟨lw2, hlw2⟩ : ∃ lw2, lowS rm 40 = lw2 := ⟨_, rfl⟩
            rw [hlw2] at cw hll g3
            obtain ⟨a, ha⟩ : ∃ a, lw2 - n = a := ⟨_, rfl⟩
            have y1 : (lw2 : Int) - (n : Int) = (a : Int) := by omega
            have y2 : IntKind.i64.wrap (a : Int) = (a : Int) := by rw [IntKind.wrap_i64]; omega
            have y3 : IntKind.i64.wrap ((lw2 : Int) - (n : Int)) = (a : Int) := by rw [IntKind.wrap_i64]; omega
            have hB1 := rpb_O hp3.1.blk k a hk
            have ho1 := hp3.2.setCell (p := ⟨gr, 2 + k, none⟩) (.inl rfl) (.int .i64 (a : Nat))
            have f2 := hB1.frozen (42 + k)
            have c2 := rpc_S hB1 hk
            have hB2 := (rpb_S hB1 k n hk).drew
            have ho2 := (ho1.setCell (p := ⟨gr, 42 + k, none⟩) (.inl rfl) (.int .i64 (n : Nat))).drew
            have hpre := HPRE.out
            rw [hlw2, ha] at hpre
            have FIN := Lib.hid (And.intro hpre (And.intro hB2 ho2))
            clear hlw2 ha hB1 ho1 hB2 ho2 hp3 hpre g1
            go_wp2_with fail
            go_region_law
              (first
                | (go_simp; go_at_call 58; refine cw.mono ?_; intro e wc hret; obtain ⟨rfl, rfl⟩ := hret)
                | fail)
            all_goals
              go_wp2
              go_meet
              case rel => rw [FIN.out.1]; exact FIN.out.2
      case rest =>
        obtain ⟨hB0, ho0⟩ := hcut
        have hprS := setRR_pre r k d
        rename World => wx
        rw [hprS] at hf1
        have hsmall := hf1.small
        generalize preR r k d = p at *
        rw [HN.out] at hf2
        obtain ⟨x, hx⟩ : ∃ x, p.O k = x := ⟨_, rfl⟩
        rw [hx] at hf2 hf1
        have HF := Lib.hid (And.intro hf1 (And.intro hx hprS))
        clear hf3 h hB cS hf1 hprS hm2 v1 v2 v3 v4 z1
        go_wp2_with fail
        go_loopw [8] (fun i wr => ∃ j : Nat, j ≤ n ∧ i = .int .i64 j ∧ Blk wr gr 70 (rpA { p with B := upd p.B x (d.take j) }) ∧ Only (fun b => b = gr) w wr) (fun i _ => n - (intOf i).toNat)
        case atStart => exact ⟨0, Nat.zero_le _, rfl, by rw [List.take_zero, upd_nil]; exact hB0, ho0⟩
        case round =>
          clear hB0 ho0
          obtain ⟨j, hj, rfl, hB, ho⟩ := hrel
          rcases Nat.lt_or_ge j n with hjn | hjn
          · have t5 : decide ((j : Int) < (n : Int)) = true := by rw [decide_eq_true_iff]; omega
            have hjd : j < d.length := by rw [HN.out]; exact hjn
            obtain ⟨b, o, rfl, -, hcd, h256⟩ := (hb.only ho fun b z e => z e).bytes.at_ hjd
            have htk : d.take (j + 1) = d.take j ++ [d[j]] := List.take_succ_eq_append_getElem hjd
            have cO := rpc_O hB hk
            simp only [hx] at cO
            have v1 : IntKind.i64.wrap ((x : Int) + (j : Int)) = (x : Int) + (j : Int) := by rw [IntKind.wrap_i64]; omega
            have i1 : (0 : Int) ≤ (x : Int) + (j : Int) := by omega
            have i2 : (x : Int) + (j : Int) < 448 := by omega
            have i3 : (0 : Int) ≤ (j : Int) := by omega
            have i4 : (j : Int) < (n : Int) := by omega
            have n1 : ((x : Int) + (j : Int)).toNat = x + j := by omega
            have fz := hB.drew.frozen (82 + (x + j))
            have c2 := rpc_B hB.drew (show x + j < 448 by omega)
            generalize d[j] = v at *
            have hB3 := rpb_B hB.drew (x + j) v (by omega)
            have hnx := upd_next p.B x (d.take j) v
            rw [List.length_take, HN.out, Nat.min_eq_left hj, ← htk] at hnx
            simp only [hnx] at hB3
            have ho3 := ho.drew.setCell (p := ⟨gr, 82 + (x + j), none⟩) (.inl rfl) (.int .u8 (v : Nat))
            have FIN := Lib.hid (And.intro hB3 ho3)
            clear hB3 ho3 hB ho hnx htk
            go_wp2_with fail
            go_still_tail 16, (by kernel_rfl)
            change wpList _ _ _ _ _ _
            go_wp2
            go_roundw
            case rel => exact ⟨j + 1, by omega, by go_num, FIN.out⟩
            case measure => simp [intOf]; omega
          · obtain rfl : j = n := by omega
            have t5 : decide ((j : Int) < (j : Int)) = false := by rw [decide_eq_false_iff_not]; omega
            rw [List.take_of_length_le (by rw [HN.out]; omega)] at hB
            have FIN : Hid (RPost gr (setRR r k d) w wr) := Lib.hid (by rw [HF.out.2.2, HF.out.2.1]; exact ⟨⟨HF.out.1, hB⟩, ho⟩)
            clear hB ho
            go_wp2
            go_ret
            exact HPOST.out _ _ (fun y => absurd Z.out (by omega)) (fun _ => ⟨rfl, FIN.out⟩)
end
end Go.Proofs.Ytkknfccfgmflmaa
