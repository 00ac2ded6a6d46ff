/- page: Set. Conditions: the page lies there, the data outside it; what is ahead of each step is as it must be. -/
import Derived.Test.YtkknfccfgmflmaaPgComp
import Derived.Deep.DeepCutAuto
namespace Go.Proofs.Ytkknfccfgmflmaa
open Go.ChangeShapes Go.WideShapes Go.ChangeAt Go.RowKit
open NumMath
set_option linter.unusedVariables false
set_option linter.unusedSimpArgs false
set_option maxRecDepth 20000

theorem BytesIn.only {w w' : World} {S T : Nat → Prop} {A : Option Addr} {l : List Nat} (h : BytesIn w T A l) (ho : Only S w w') (hd : ∀ b, T b → ¬ S b) : BytesIn w' T A l := h.stays (ho.stays hd)
def oldA (f : Nat → Nat) (s : Nat) : Nat := if s < cnt f then atN f s else 0
def oldN (f : Nat → Nat) (s : Nat) : Nat := if s < cnt f then lenN f s else 0
def needC (f : Nat → Nat) (s : Nat) : Nat := max (cnt f) (s + 1)
def clrF (f : Nat → Nat) (s : Nat) : Nat → Nat := if 0 < oldN f s then clearF f s else f
def tight (f : Nat → Nat) (s : Nat) (d : List Nat) : Prop := lowN (clrF f s) < 16 + 4 * needC f s + d.length
instance (f : Nat → Nat) (s : Nat) (d : List Nat) : Decidable (tight f s d) := inferInstanceAs (Decidable (_ < _))
def cmpF (f : Nat → Nat) (s : Nat) (d : List Nat) : Nat → Nat := if tight f s d then compF (clrF f s) else clrF f s
def putS (g : Nat → Nat) (s : Nat) (d : List Nat) : Nat → Nat := lst (upd (wr g 12 2 (max (cnt g) (s + 1))) (lowN g - d.length) d) s (lowN g - d.length) d.length
def setN (f : Nat → Nat) (s : Nat) (d : List Nat) : Nat → Nat := settleF (putS (cmpF f s d) s d)
/-- all that the steps of Set want -/
structure SetOk (f : Nat → Nat) (s : Nat) (d : List Nat) : Prop where
  clr : Ok (clrF f s)
  laid : tight f s d → Ok (laidF (clrF f s)) ∧ ∀ k, k < (slotsF (clrF f s)).length → (layL ((pairsF (clrF f s)).take k) (zapL (clrF f s) (slotsF (clrF f s)) (clrF f s))).1 ≤ 448 ∧ lenN (clrF f s) ((slotsF (clrF f s)).getD k 0) ≤ (layL ((pairsF (clrF f s)).take k) (zapL (clrF f s) (slotsF (clrF f s)) (clrF f s))).1
  cmp : Ok (cmpF f s d)
  low1 : d.length ≤ lowN (cmpF f s d)
  low2 : lowN (cmpF f s d) ≤ 448
  fin : Ok (putS (cmpF f s d) s d)
theorem fit_old {f : Nat → Nat} (ho : Ok f) (s : Nat) : oldA f s + oldN f s ≤ 448 ∧ oldA f s < 448 ∧ oldN f s ≤ 64 := by
  unfold oldA oldN
  by_cases hs : s < cnt f
  · rw [if_pos hs, if_pos hs]; exact ho.fit hs
  · rw [if_neg hs, if_neg hs]; omega
section
variable {w : World} {gp : Nat} {f : Nat → Nat}
theorem data_slot (h : PgAt w gp f) (ho : Ok f) (s : Nat) :
    Calls Try.prog 31 #[.pointer (some ⟨gp, 0, none⟩), .int .i64 s] w fun e w' => e = .returned (piece gp (oldA f s) (oldN f s)) ∧ w = w' := by
  unfold oldA oldN
  by_cases hs : s < cnt f
  · rw [if_pos hs, if_pos hs]
    exact data_ok h ho s hs
  · rw [if_neg hs, if_neg hs]
    exact data_out h s (by omega)
/-- Clear, whatever there is -/
theorem clear_slot (h : PgAt w gp f) (ho : Ok f) (s : Nat) :
    Calls Try.prog 22 #[.pointer (some ⟨gp, 0, none⟩), .int .i64 s] w fun e w' => e = .returned (.bool (decide (0 < oldN f s))) ∧ PgPost gp (clrF f s) w w' := by
  unfold clrF
  by_cases hn : 0 < oldN f s
  · rw [if_pos hn, decide_eq_true hn]
    have hs : s < cnt f := by
      unfold oldN at hn
      split at hn
      · assumption
      · omega
    refine clear_yes h ho s hs ?_
    unfold oldN at hn
    rw [if_pos hs] at hn
    exact hn
  · rw [if_neg hn, decide_eq_false hn]
    have hd := data_slot h ho s
    rw [show oldN f s = 0 by omega] at hd
    refine (clear_no h s _ hd).mono ?_
    rintro e w' ⟨rfl, rfl⟩
    exact ⟨rfl, PgPost.refl h⟩
theorem set_bad (s : Int) (A : Option Addr) (c n : Nat) (w : World) (hb : ¬ (0 ≤ s ∧ s < 40 ∧ 1 ≤ n ∧ n ≤ 64)) (p : Value) :
    Calls Try.prog 14 #[p, .int .i64 s, .slice A n c] w fun e w' => e = .returned (.int .u16 91) ∧ w = w' := by
  rcases (show s < 0 ∨ (¬ s < 0 ∧ 40 ≤ s) ∨ (¬ s < 0 ∧ ¬ 40 ≤ s ∧ n = 0) ∨ (¬ s < 0 ∧ ¬ 40 ≤ s ∧ n ≠ 0 ∧ 64 < n) from by omega) with q | ⟨q1, q2⟩ | ⟨q1, q2, q3⟩ | ⟨q1, q2, q3, q4⟩
  · have t1 : decide (s < 0) = true := by rw [decide_eq_true_iff]; exact q
    clear hb
    go_enter Try.func14, Try.ntmps14
    go_wp2
    go_ret
    exact ⟨rfl, rfl⟩
  · have t1 : decide (s < 0) = false := by rw [decide_eq_false_iff_not]; exact q1
    have t2 : decide (40 ≤ s) = true := by rw [decide_eq_true_iff]; exact q2
    clear hb
    go_enter Try.func14, Try.ntmps14
    go_wp2
    go_ret
    exact ⟨rfl, rfl⟩
  · have t1 : decide (s < 0) = false := by rw [decide_eq_false_iff_not]; exact q1
    have t2 : decide (40 ≤ s) = false := by rw [decide_eq_false_iff_not]; exact q2
    subst q3
    clear hb
    go_enter Try.func14, Try.ntmps14
    go_wp2
    go_ret
    exact ⟨rfl, rfl⟩
  · have t1 : decide (s < 0) = false := by rw [decide_eq_false_iff_not]; exact q1
    have t2 : decide (40 ≤ s) = false := by rw [decide_eq_false_iff_not]; exact q2
    have t3 : ((n : Int) == 0) = false := by rw [beq_eq_false_iff_ne]; omega
    have t4 : decide ((64 : Int) < (n : Int)) = true := by rw [decide_eq_true_iff]; omega
    clear hb
    go_enter Try.func14, Try.ntmps14
    go_wp2
    go_ret
    exact ⟨rfl, rfl⟩
/-- the page behind a Set that was done -/
def setR (f : Nat → Nat) (s : Nat) (d : List Nat) : Nat → Nat := if oldN f s = d.length then upd f (oldA f s) d else setN f s d
/-- what Set leaves, of a slot and data that may be -/
def SetPost (f : Nat → Nat) (s : Nat) (d : List Nat) (gp : Nat) (w : World) (e : Ending) (w' : World) : Prop :=
  (448 < 16 + 4 * needC f s + (usedF f - oldN f s) + d.length → e = .returned (.int .u16 92) ∧ w = w') ∧
  (16 + 4 * needC f s + (usedF f - oldN f s) + d.length ≤ 448 → e = .returned (.int .u16 0) ∧ PgPost gp (setR f s d) w w')
set_option maxHeartbeats 8000000 in
theorem set_good (h : PgAt w gp f) (ho : Ok f) (s : Nat) (hs : s < 40) (A : Option Addr) (c : Nat) (d : List Nat) (hd1 : 1 ≤ d.length) (hd2 : d.length ≤ 64) (hb : BytesIn w (fun b => b ≠ gp) A d) (hou : oldN f s ≤ usedF f)
    (hset : 16 + 4 * needC f s + (usedF f - oldN f s) + d.length ≤ 448 → oldN f s ≠ d.length → SetOk f s d) :
    Calls Try.prog 14 #[.pointer (some ⟨gp, 0, none⟩), .int .i64 s, .slice A d.length c] w (SetPost f s d gp w) := by
  have cd := data_slot h ho s
  have cc := count_any h
  have hc40 := ho.c40
  have cu := used_any h ho
  have ce := fun W => end_any (needC f s) (by unfold needC; omega) W
  have hub := usedTo_le f (cnt f) fun s hs => (ho.fit hs).2.2
  rw [show usedTo f (cnt f) = usedF f from rfl] at hub
  have hfo := fit_old ho s
  have hnc : needC f s ≤ 40 := by unfold needC; omega
  have hmax : needC f s = max (cnt f) (s + 1) := rfl
  obtain ⟨q, hq⟩ : ∃ q, 16 + 4 * needC f s = q := ⟨_, rfl⟩
  have hq' : 16 + 4 * needC f s = q := hq
  obtain ⟨n, hn⟩ : ∃ n, d.length = n := ⟨_, rfl⟩
  have HN := Lib.hid hn
  unfold piece at cd
  unfold SetPost
  rw [hn] at hd1 hd2 hset ⊢
  rw [hq] at ce hset ⊢
  obtain ⟨u, hu⟩ : ∃ u, usedF f = u := ⟨_, rfl⟩
  rw [hu] at cu hub hou hset ⊢
  have hub2 : u ≤ 2560 := by omega
  clear hub
  obtain ⟨a0, ha0⟩ : ∃ a0, oldA f s = a0 := ⟨_, rfl⟩
  obtain ⟨n0, hn0⟩ : ∃ n0, oldN f s = n0 := ⟨_, rfl⟩
  rw [ha0, hn0] at cd hfo
  rw [hn0] at hou hset ⊢
  obtain ⟨cn, hcn⟩ : ∃ cn, needC f s = cn := ⟨_, rfl⟩
  rw [hcn] at ce hnc hmax hq'
  obtain ⟨ct, hct⟩ : ∃ ct, cnt f = ct := ⟨_, rfl⟩
  rw [hct] at cc hc40 hmax
  have t1 : decide ((s : Int) < 0) = false := by rw [decide_eq_false_iff_not]; omega
  have t2 : decide ((40 : Int) ≤ (s : Int)) = false := by rw [decide_eq_false_iff_not]; omega
  have t3 : ((n : Int) == 0) = false := by rw [beq_eq_false_iff_ne]; omega
  have t4 : decide ((64 : Int) < (n : Int)) = false := by rw [decide_eq_false_iff_not]; omega
  have HF := Lib.hid (And.intro hcn (And.intro hn0 (And.intro ha0 (And.intro hq (And.intro hu hct)))))
  clear hn hq hu ha0 hn0 hcn hct
  go_enter Try.func14, Try.ntmps14
  go_wp2_with fail
  refine cd.mono ?_
  rintro e w1 ⟨rfl, rfl⟩
  clear cd
  go_upto_region 4 with (fail)
  go_cut [8] (fun s8 wx => s8 = .int .i64 cn ∧ w = wx)
  case first =>
    clear ce cu hset
    rcases Nat.lt_or_ge ct (s + 1) with z | z
    · have z1 : ¬ ((s : Int) + 1 ≤ (ct : Int)) := by omega
      have z2 : (ct : Int) < (s : Int) + 1 := by omega
      have z3 : (ct : Int) ≤ (s : Int) + 1 := by omega
      have z4 : cn = s + 1 := by omega
      have Z4 := Lib.hid z4
      clear z4 hmax hq'
      go_wp2_with fail
      refine cc.mono ?_
      rintro e w1 ⟨rfl, rfl⟩
      clear cc
      go_wp2
      go_meet
      case rel => exact ⟨by rw [Z4.out]; go_num, rfl⟩
    · have z1 : (s : Int) + 1 ≤ (ct : Int) := by omega
      have z4 : cn = ct := by omega
      have Z4 := Lib.hid z4
      clear z4 hmax hq'
      go_wp2_with fail
      refine cc.mono ?_
      rintro e w1 ⟨rfl, rfl⟩
      clear cc
      go_wp2
      go_meet
      case rel => exact ⟨by rw [Z4.out], rfl⟩
  case rest =>
    obtain ⟨rfl, rfl⟩ := hcut
    clear cc
    have HQ' := Lib.hid (And.intro hmax hq')
    clear hmax hq'
    have hq176 : q ≤ 176 := by have := HQ'.out.2; omega
    have ce1 := ce w
    have vv1 : IntKind.i64.wrap ((q : Int) + (u : Int)) = (q : Int) + (u : Int) := by rw [IntKind.wrap_i64]; omega
    have vv2 : IntKind.i64.wrap ((q : Int) + (u : Int) - (n0 : Int)) = (q : Int) + (u : Int) - (n0 : Int) := by rw [IntKind.wrap_i64]; omega
    have vv3 : IntKind.i64.wrap ((q : Int) + (u : Int) - (n0 : Int) + (n : Int)) = (q : Int) + (u : Int) - (n0 : Int) + (n : Int) := by rw [IntKind.wrap_i64]; omega
    rcases Nat.lt_or_ge 448 (q + (u - n0) + n) with z | z
    · have z1 : (448 : Int) < (q : Int) + (u : Int) - (n0 : Int) + (n : Int) := by omega
      have fin : SetPost f s d gp w (.returned (.int .u16 92)) w := ⟨fun _ => ⟨rfl, rfl⟩, fun y => by
        rw [HF.out.2.2.2.1, HF.out.2.2.2.2.1, HF.out.2.1, HN.out] at y
        omega⟩
      have Z := Lib.hid z
      clear ce hset fin z
      go_wp2_with fail
      refine ce1.mono ?_
      rintro e w1 ⟨rfl, rfl⟩
      clear ce1
      go_wp2_with fail
      refine cu.mono ?_
      rintro e w1 ⟨rfl, rfl⟩
      clear cu
      go_wp2
      go_ret
      exact ⟨fun _ => ⟨rfl, rfl⟩, fun y => absurd Z.out (by omega)⟩
    · have z1 : (q : Int) + (u : Int) - (n0 : Int) + (n : Int) ≤ 448 := by omega
      have hset' := hset z
      clear hset
      go_wp2_with fail
      refine ce1.mono ?_
      rintro e w1 ⟨rfl, rfl⟩
      clear ce1
      go_wp2_with fail
      refine cu.mono ?_
      rintro e w1 ⟨rfl, rfl⟩
      clear cu
      have Z := Lib.hid z
      clear z
      by_cases e0 : n0 = n
      · subst e0
        have t5 : ((n0 : Int) == (n0 : Int)) = true := by rw [beq_iff_eq]
        have hby : Bytes w w.heap.size A d := hb.bytes
        obtain ⟨w2, hrun, hb2, hg2⟩ := run_copy_blk (P := Try.prog) (w := w) 24 24 3 5 Try.underlying24 u8_one gp a0 n0 (448 - a0) 67 f h.blk (by omega) w.heap.size A n0 c d HN.out hby (Nat.le_refl _)
        have hp : PgPost gp (upd f a0 d) w w2 := PgPost.of_grown hb2 (fun i => upd_small h.small _ hb.2 i) hg2
        have FIN := Lib.hid hp
        clear hp hb2 hg2 hby hset' h
        go_wp2
        go_ret
        exact ⟨fun y => absurd Z.out (by omega), fun _ => ⟨rfl, by unfold setR; rw [HF.out.2.1, HF.out.2.2.1, HN.out, if_pos rfl]; exact FIN.out⟩⟩
      · have t5 : ((n0 : Int) == (n : Int)) = false := by rw [beq_eq_false_iff_ne]; omega
        have hS := hset' e0
        have cl := clear_slot h ho s
        clear hset' h
        go_wp2_with fail
        refine cl.mono ?_
        rintro e w2 ⟨rfl, hp2⟩
        clear cl
        have cw := low_any hp2.1
        have hlw : lowN (clrF f s) < 65536 := rd2_lt hp2.1.small _
        have hti : tight f s d ↔ lowN (clrF f s) < q + n := by unfold tight; rw [HF.out.1, HN.out, HQ'.out.2]
        have hb2 := hb.only hp2.2 fun b z e => z e
        have hZ3 := Lib.hid (And.intro hc40 (And.intro hnc hfo))
        clear hou hub2 vv1 vv2 vv3 z1 hc40 t5
        obtain ⟨lw, hlw2⟩ : ∃ lw, lowN (clrF f s) = lw := ⟨_, rfl⟩
        rw [hlw2] at cw hlw hti
        clear hlw2
        go_wp2_with fail
        refine cw.mono ?_
        rintro e w3 ⟨rfl, rfl⟩
        clear cw
        go_wp2_with fail
        refine (ce _).mono ?_
        rintro e w3 ⟨rfl, rfl⟩
        clear ce
        go_upto_if 64 with (fail)
        go_cut [] (fun wx => PgPost gp (cmpF f s d) w wx)
        case first =>
          by_cases ht : tight f s d
          · have y1 : (lw : Int) - (q : Int) < (n : Int) := by have := hti.1 ht; omega
            have cm := compact_any hp2.1 hS.clr (hS.laid ht).1 (hS.laid ht).2
            have he : cmpF f s d = compF (clrF f s) := if_pos ht
            have HE := Lib.hid he
            clear he hti ht
            go_wp2_with fail
            refine cm.mono ?_
            rintro e w3 ⟨rfl, hp3⟩
            have FIN := Lib.hid (hp2.trans hp3)
            clear cm hp3 hp2 hb2
            go_wp2
            go_meet
            case rel => rw [HE.out]; exact FIN.out
          · have y1 : (n : Int) ≤ (lw : Int) - (q : Int) := by have : ¬ lw < q + n := fun z => ht (hti.2 z); omega
            have he : cmpF f s d = clrF f s := if_neg ht
            have HE := Lib.hid he
            have FIN := Lib.hid hp2
            clear he hti ht hp2 hb2
            go_wp2
            go_meet
            case rel => rw [HE.out]; exact FIN.out
        case rest =>
          have hp3 := hcut
          clear hcut hp2 hb2 hti hlw
          have hb3 := hb.only hp3.2 fun b z e => z e
          have cw := low_any hp3.1
          have hS1 := hS.low1
          have hS2 := hS.low2
          have hS3 := hS.cmp
          have hS4 := hS.fin
          have hsr : setR f s d = settleF (putS (cmpF f s d) s d) := by
            unfold setR setN
            rw [HF.out.2.1, HN.out, if_neg e0]
          have hpu : putS (cmpF f s d) s d = lst (upd (wr (cmpF f s d) 12 2 (max (cnt (cmpF f s d)) (s + 1))) (lowN (cmpF f s d) - d.length) d) s (lowN (cmpF f s d) - d.length) d.length := rfl
          rw [hpu] at hS4 hsr
          rw [HN.out] at hS1 hS4 hsr
          clear hS hpu
          obtain ⟨lw2, hlw2⟩ : ∃ lw2, lowN (cmpF f s d) = lw2 := ⟨_, rfl⟩
          rw [hlw2] at cw hS1 hS2 hS4 hsr
          clear hlw2
          obtain ⟨at2, hat2⟩ : ∃ at2, lw2 - n = at2 := ⟨_, rfl⟩
          rw [hat2] at hS4 hsr
          have HSR := Lib.hid hsr
          clear hsr
          have y1 : (lw2 : Int) - (n : Int) = (at2 : Int) := by omega
          have y2 : IntKind.i64.wrap (at2 : Int) = (at2 : Int) := by rw [IntKind.wrap_i64]; omega
          have hat3 : at2 + n ≤ 448 := by omega
          have hat4 : at2 ≤ 447 := by omega
          clear hat2
          have cc2 := count_any hp3.1
          have hc2 := hS3.c40
          generalize cmpF f s d = g at *
          go_wp2_with fail
          refine cw.mono ?_
          rintro e w4 ⟨rfl, rfl⟩
          clear cw
          go_upto_region 14 with (fail)
          go_cut [] (fun wx => PgPost gp (wr g 12 2 (max (cnt g) (s + 1))) w wx)
          case first =>
            obtain ⟨mx, hmx⟩ : ∃ mx, max (cnt g) (s + 1) = mx := ⟨_, rfl⟩
            have HMX := Lib.hid hmx
            have cp := pput_any hp3.1 12 2 mx (by omega) (by omega) (by omega) (by omega)
            obtain ⟨ct2, hct2⟩ : ∃ ct2, cnt g = ct2 := ⟨_, rfl⟩
            rw [hct2] at hmx cc2 hc2
            clear hct2
            rcases Nat.lt_or_ge ct2 (s + 1) with z | z
            · have z1 : ¬ ((s : Int) + 1 ≤ (ct2 : Int)) := by omega
              have z2 : (ct2 : Int) < (s : Int) + 1 := by omega
              have z3 : (ct2 : Int) ≤ (s : Int) + 1 := by omega
              have z4 : (s : Int) + 1 = (mx : Int) := by omega
              have z5 : IntKind.u64.wrap (mx : Int) = (mx : Int) := by rw [IntKind.wrap_u64]; omega
              clear hmx
              go_wp2_with fail
              refine cc2.mono ?_
              rintro e w4 ⟨rfl, rfl⟩
              clear cc2
              go_wp2_with fail
              refine cp.mono ?_
              rintro e w5 ⟨rfl, hp5⟩
              have FIN := Lib.hid (hp3.trans hp5)
              clear cp hp5 hp3 hb3
              go_wp2
              go_meet
              case rel => rw [HMX.out]; exact FIN.out
            · have z1 : (s : Int) + 1 ≤ (ct2 : Int) := by omega
              obtain rfl : ct2 = mx := by omega
              have z5 : IntKind.u64.wrap (ct2 : Int) = (ct2 : Int) := by rw [IntKind.wrap_u64]; omega
              clear hmx
              go_wp2_with fail
              refine cc2.mono ?_
              rintro e w4 ⟨rfl, rfl⟩
              clear cc2
              go_wp2_with fail
              refine cp.mono ?_
              rintro e w5 ⟨rfl, hp5⟩
              have FIN := Lib.hid (hp3.trans hp5)
              clear cp hp5 hp3 hb3
              go_wp2
              go_meet
              case rel => rw [HMX.out]; exact FIN.out
          case rest =>
            have hp5 := hcut
            clear hcut hp3 hb3 cc2
            have hb5 := hb.only hp5.2 fun b z e => z e
            generalize wr g 12 2 (max (cnt g) (s + 1)) = g2 at *
            have y3 : (448 = at2) = False := eq_false (by omega)
            have y4 : (0 : Int) ≤ (at2 : Int) := by omega
            have y5 : (at2 : Int) ≤ 448 := by omega
            obtain ⟨w6, hrun, hb6, hg6⟩ := run_copy_blk (P := Try.prog) (w := wc) 24 24 3 5 Try.underlying24 u8_one gp at2 (448 - at2) (448 - at2) 67 g2 hp5.1.blk (by omega) wc.heap.size A n c d HN.out hb5.bytes (by omega)
            have hp6 := hp5.trans (PgPost.of_grown hb6 (fun i => upd_small hp5.1.small _ hb.2 i) hg6)
            have cl := list_any hp6.1 s at2 n (by omega) (by omega) (by omega)
            clear hb6 hg6 hb5 hp5
            go_wp2_with fail
            refine cl.mono ?_
            rintro e w7 ⟨rfl, hp7⟩
            have hp7' := hp6.trans hp7
            have cs := settle_any hp7'.1 hS4
            clear cl hp6 hp7 hrun
            go_wp2_with fail
            refine cs.mono ?_
            rintro e w8 ⟨rfl, hp8⟩
            have FIN := Lib.hid (hp7'.trans hp8)
            clear cs hp7' hp8
            go_wp2
            go_ret
            exact ⟨fun y => absurd Z.out (by omega), fun _ => ⟨rfl, by rw [HSR.out]; exact FIN.out⟩⟩
end
end Go.Proofs.Ytkknfccfgmflmaa
