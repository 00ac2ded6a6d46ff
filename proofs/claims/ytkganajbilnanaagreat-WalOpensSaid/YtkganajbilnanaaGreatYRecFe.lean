/- rec's document: may. Conditions: the record lies there. -/
import Derived.Test.YtkganajbilnanaaGreatYRecE
set_option linter.unusedVariables false
set_option linter.unusedSimpArgs false
namespace Go.Proofs.YtkganajbilnanaaGreat
open Go.ChangeShapes Go.WideShapes Go.ChangeAt Go.RowKit
open NumMath
set_option maxRecDepth 20000
theorem bool_of (p : Prop) [Decidable p] : ∃ b : Bool, (b = true ↔ p) := ⟨decide p, decide_eq_true_iff⟩
def bad1 (k nt np nb na : Nat) : Prop := k < 1 ∨ 8 < k ∨ 64 < nt ∨ 64 < np ∨ 64 < nb ∨ 64 < na
def bad2 (ch had has : Bool) (pg sl : Nat) : Prop := ch = false ∧ (pg ≠ 0 ∨ sl ≠ 0 ∨ had = true ∨ has = true)
def bad3 (had has : Bool) (nb na : Nat) : Prop := (had = false ∧ 0 < nb) ∨ (has = false ∧ 0 < na)
def bad4 (k nt np : Nat) : Prop := k ≠ 8 ∧ 0 < nt + np
instance (k nt np nb na : Nat) : Decidable (bad1 k nt np nb na) := by unfold bad1; infer_instance
instance (ch had has : Bool) (pg sl : Nat) : Decidable (bad2 ch had has pg sl) := by unfold bad2; infer_instance
instance (had has : Bool) (nb na : Nat) : Decidable (bad3 had has nb na) := by unfold bad3; infer_instance
instance (k nt np : Nat) : Decidable (bad4 k nt np) := by unfold bad4; infer_instance
theorem okR_ref (r : RecP) : okR r = true ↔ ¬ bad1 r.kind r.txns.length r.pages.length r.chg.before.length r.chg.after.length ∧ ¬ bad2 (chgs r.kind) r.chg.had r.chg.has r.chg.page r.chg.slot ∧
    ¬ bad3 r.chg.had r.chg.has r.chg.before.length r.chg.after.length ∧ ¬ bad4 r.kind r.txns.length r.pages.length ∧ r.txns.any badT = false := by
  unfold okR okC bad1 bad2 bad3 bad4
  generalize r.txns.any badT = ab
  generalize chgs r.kind = ch
  generalize r.chg.had = had
  generalize r.chg.has = has
  generalize r.chg.before.length = nb
  generalize r.chg.after.length = na
  generalize r.txns.length = nt
  generalize r.pages.length = np
  generalize r.chg.page = pg
  generalize r.chg.slot = sl
  generalize r.kind = k
  cases had <;> cases has <;> cases ch <;> cases ab <;> simp <;> omega
theorem any_get (l : List TxP) : l.any badT = false ↔ ∀ (i : Nat) (x : TxP), l[i]? = some x → badT x = false := by
  rw [List.any_eq_false]
  constructor
  · intro h i x hi
    have := h _ (List.mem_of_getElem? hi)
    simpa using this
  · intro h x hx
    obtain ⟨i, hi, rfl⟩ := List.mem_iff_getElem.1 hx
    rw [h i _ (List.getElem?_eq_getElem hi)]
    decide
def RmPost (r : RecP) (w : World) (e : Ending) (w' : World) : Prop := e = .returned (.bool (okR r)) ∧ Below w.heap.size w w'
set_option maxHeartbeats 8000000 in
theorem rmay_any (r : RecP) (m : RecMm) (B : Nat) (w : World) (h : RecAt w B r m) (hB : B ≤ w.heap.size) :
    Calls Tryz.prog 122 #[.agg (recA r m)] w (RmPost r w) := by
  have kb := Blk.new w 51 (recA r m)
  have hb := below_alloc w (.cells (recA r m) 51)
  have hT := h.txs.below (hb.mono hB)
  go_enter Tryz.func122, Tryz.ntmps122
  go_upto_region 1 with fail
  generalize World.alloc w _ = w1 at *
  have ld := load_chg kb
  have st := store_chg w1 r.chg m.cm
  have kc := Blk.new w1 47 (chgV r.chg m.cm)
  have kb2 := kb.alloc (.cells (chgV r.chg m.cm) 47)
  have hb2 := below_alloc w1 (.cells (chgV r.chg m.cm) 47)
  have hT2 := hT.below (hb2.mono (Nat.le_trans hB hb.size))
  have HB := Lib.hid (hb.trans (hb2.mono hb.size))
  clear hb hb2 hT kb h
  go_upto_region 2 with (first | (refine wpList_load_run rfl 47 (.tmp 6) _ _ rfl rfl ld ?_; clear ld) | (refine wpList_store_run rfl 47 (.tmp 3) (.tmp 7) _ _ rfl rfl rfl st ?_; clear st))
  generalize World.alloc w1 _ = w2 at *
  generalize w1.heap.size = g2 at *
  have hOK := okR_ref r
  have hAG := any_get r.txns
  obtain ⟨c0, c1, c2, c3, c4, c5⟩ := ChgBox.of kc
  obtain ⟨q0, -, -, -, -, -, -, -, -, -, q10, q11⟩ := RecBox.of kb2
  have hT3 := Lib.hid hT2
  clear kc kb2 hT2
  generalize r.kind = k at *
  generalize r.pages.length = np at *
  generalize hnt : r.txns.length = nt at *
  generalize r.chg.before.length = nb at *
  generalize r.chg.after.length = na at *
  generalize r.chg.page = pg at *
  generalize r.chg.slot = sl at *
  generalize r.chg.had = had at *
  generalize r.chg.has = has at *
  have HNT := Lib.hid hnt
  obtain ⟨b1, h1⟩ := bool_of (bad1 k nt np nb na)
  obtain ⟨b2, h2⟩ := bool_of (bad2 (chgs k) had has pg sl)
  obtain ⟨b3, h3⟩ := bool_of (bad3 had has nb na)
  obtain ⟨b4, h4⟩ := bool_of (bad4 k nt np)
  rw [← h1, ← h2, ← h3, ← h4] at hOK
  have HOK := Lib.hid hOK
  have HAG := Lib.hid hAG
  have H1 := Lib.hid h1
  have H2 := Lib.hid h2
  have H3 := Lib.hid h3
  have H4 := Lib.hid h4
  have NO : Hid (∀ W, Below w.heap.size w W → (b1 = true ∨ b2 = true ∨ b3 = true ∨ b4 = true ∨ r.txns.any badT = true) → RmPost r w (.returned (.bool false)) W) := Lib.hid fun W hW z => by
    refine ⟨?_, hW⟩
    have : okR r = false := by
      rw [← Bool.not_eq_true, HOK.out]
      rintro ⟨y1, y2, y3, y4, y5⟩
      rcases z with z | z | z | z | z
      · exact y1 z
      · exact y2 z
      · exact y3 z
      · exact y4 z
      · rw [z] at y5; cases y5
    rw [this]
  clear hOK hAG h1 h2 h3 h4 hnt
  have hc := chgs_cases k
  dsimp only [Act.put]
  go_cut [4] (fun v wx => v = .bool (chgs k) ∧ w2 = wx)
  case first =>
    rcases hc with ⟨rfl, e⟩ | ⟨e1, rfl, e⟩ | ⟨e1, e2, e⟩
    · have HE := Lib.hid e
      clear e
      go_wp2
      go_meet
      case rel => exact ⟨rfl, rfl⟩
    · have HE := Lib.hid e
      clear e e1
      go_wp2
      go_meet
      case rel => exact ⟨rfl, rfl⟩
    · have t1 : ((k : Int) == 2) = false := by rw [beq_eq_false_iff_ne]; omega
      have t2 : ((k : Int) == 3) = false := by rw [beq_eq_false_iff_ne]; omega
      have HE := Lib.hid e
      clear e
      go_wp2
      go_meet
      case rel => exact ⟨by rw [HE.out], rfl⟩
  case rest =>
    obtain ⟨rfl, rfl⟩ := hcut
    clear hc
    go_upto_region 3 with fail
    go_cut [47] (fun v wx => v = .bool b1 ∧ w2 = wx)
    case first =>
      generalize chgs k = ch at *
      by_cases z1 : k < 1
      · have t1 : decide ((k : Int) < 1) = true := by rw [decide_eq_true_iff]; omega
        have HE := Lib.hid (H1.out.2 (.inl z1))
        clear z1
        go_wp2
        go_meet
        case rel => exact ⟨by rw [HE.out], rfl⟩
      have t1 : decide ((k : Int) < 1) = false := by rw [decide_eq_false_iff_not]; omega
      by_cases z2 : 8 < k
      · have t2 : decide ((8 : Int) < (k : Int)) = true := by rw [decide_eq_true_iff]; omega
        have HE := Lib.hid (H1.out.2 (.inr (.inl z2)))
        clear z1 z2
        go_wp2
        go_meet
        case rel => exact ⟨by rw [HE.out], rfl⟩
      have t2 : decide ((8 : Int) < (k : Int)) = false := by rw [decide_eq_false_iff_not]; omega
      by_cases z3 : 64 < nt
      · have t3 : decide ((64 : Int) < (nt : Int)) = true := by rw [decide_eq_true_iff]; omega
        have HE := Lib.hid (H1.out.2 (.inr (.inr (.inl z3))))
        clear z1 z2 z3
        go_wp2
        go_meet
        case rel => exact ⟨by rw [HE.out], rfl⟩
      have t3 : decide ((64 : Int) < (nt : Int)) = false := by rw [decide_eq_false_iff_not]; omega
      by_cases z4 : 64 < np
      · have t4 : decide ((64 : Int) < (np : Int)) = true := by rw [decide_eq_true_iff]; omega
        have HE := Lib.hid (H1.out.2 (.inr (.inr (.inr (.inl z4)))))
        clear z1 z2 z3 z4
        go_wp2
        go_meet
        case rel => exact ⟨by rw [HE.out], rfl⟩
      have t4 : decide ((64 : Int) < (np : Int)) = false := by rw [decide_eq_false_iff_not]; omega
      by_cases z5 : 64 < nb
      · have t5 : decide ((64 : Int) < (nb : Int)) = true := by rw [decide_eq_true_iff]; omega
        have HE := Lib.hid (H1.out.2 (.inr (.inr (.inr (.inr (.inl z5))))))
        clear z1 z2 z3 z4 z5
        go_wp2
        go_meet
        case rel => exact ⟨by rw [HE.out], rfl⟩
      have t5 : decide ((64 : Int) < (nb : Int)) = false := by rw [decide_eq_false_iff_not]; omega
      by_cases z6 : 64 < na
      · have t6 : decide ((64 : Int) < (na : Int)) = true := by rw [decide_eq_true_iff]; omega
        have HE := Lib.hid (H1.out.2 (.inr (.inr (.inr (.inr (.inr z6))))))
        clear z1 z2 z3 z4 z5 z6
        go_wp2
        go_meet
        case rel => exact ⟨by rw [HE.out], rfl⟩
      have t6 : decide ((64 : Int) < (na : Int)) = false := by rw [decide_eq_false_iff_not]; omega
      have HE : Hid (b1 = false) := Lib.hid (by
        rw [← Bool.not_eq_true, H1.out]
        unfold bad1
        omega)
      clear z1 z2 z3 z4 z5 z6
      go_wp2
      go_meet
      case rel => exact ⟨by rw [HE.out], rfl⟩
    case rest =>
      obtain ⟨rfl, rfl⟩ := hcut
      cases b1
      rotate_left
      · have F := Lib.hid (NO.out _ HB.out (.inl rfl))
        clear NO
        go_wp2
        go_ret
        exact F.out
      have hB1 : nt ≤ 64 ∧ np ≤ 64 ∧ k ≤ 8 := by
        have : ¬ bad1 k nt np nb na := fun q => by have := H1.out.2 q; cases this
        unfold bad1 at this
        omega
      go_upto_region 5 with fail
      generalize chgs k = ch at *
      go_cut [67] (fun v wx => v = .bool b2 ∧ w2 = wx)
      case first =>
        cases ch
        rotate_left
        · have HE : Hid (b2 = false) := Lib.hid (by
            rw [← Bool.not_eq_true, H2.out]
            rintro ⟨q, -⟩
            cases q)
          go_wp2
          go_meet
          case rel => exact ⟨by rw [HE.out], rfl⟩
        by_cases z1 : pg = 0
        rotate_left
        · have t1 : ((pg : Int) != 0) = true := by rw [bne_iff_ne]; omega
          have HE := Lib.hid (H2.out.2 ⟨rfl, .inl z1⟩)
          clear z1
          go_wp2
          go_meet
          case rel => exact ⟨by rw [HE.out], rfl⟩
        have t1 : ((pg : Int) != 0) = false := by rw [bne_eq_false_iff_eq]; omega
        by_cases z2 : sl = 0
        rotate_left
        · have t2 : ((sl : Int) != 0) = true := by rw [bne_iff_ne]; omega
          have HE := Lib.hid (H2.out.2 ⟨rfl, .inr (.inl z2)⟩)
          clear z1 z2
          go_wp2
          go_meet
          case rel => exact ⟨by rw [HE.out], rfl⟩
        have t2 : ((sl : Int) != 0) = false := by rw [bne_eq_false_iff_eq]; omega
        cases had
        rotate_left
        · have HE := Lib.hid (H2.out.2 ⟨rfl, .inr (.inr (.inl rfl))⟩)
          clear z1 z2
          go_wp2
          go_meet
          case rel => exact ⟨by rw [HE.out], rfl⟩
        cases has
        rotate_left
        · have HE := Lib.hid (H2.out.2 ⟨rfl, .inr (.inr (.inr rfl))⟩)
          clear z1 z2
          go_wp2
          go_meet
          case rel => exact ⟨by rw [HE.out], rfl⟩
        have HE : Hid (b2 = false) := Lib.hid (by
          rw [← Bool.not_eq_true, H2.out]
          rintro ⟨-, q | q | q | q⟩
          · exact q z1
          · exact q z2
          · cases q
          · cases q)
        clear z1 z2
        go_wp2
        go_meet
        case rel => exact ⟨by rw [HE.out], rfl⟩
      case rest =>
        obtain ⟨rfl, rfl⟩ := hcut
        cases b2
        rotate_left
        · have F := Lib.hid (NO.out _ HB.out (.inr (.inl rfl)))
          clear NO
          go_wp2
          go_ret
          exact F.out
        go_upto_region 7 with fail
        go_cut [87] (fun v wx => v = .bool b3 ∧ w2 = wx)
        case first =>
          cases had
          rotate_left
          · clear hB1
            cases has
            rotate_left
            · have HE : Hid (b3 = false) := Lib.hid (by
                rw [← Bool.not_eq_true, H3.out]
                rintro (⟨q, q'⟩ | ⟨q, q'⟩)
                · cases q
                · cases q)
              go_wp2
              go_meet
              case rel => exact ⟨by rw [HE.out], rfl⟩
            by_cases z2 : 0 < na
            · have t2 : decide ((0 : Int) < (na : Int)) = true := by rw [decide_eq_true_iff]; omega
              have u2 : decide (0 < na) = true := by rw [decide_eq_true_iff]; omega
              have HE := Lib.hid (H3.out.2 (.inr ⟨rfl, z2⟩))
              clear z2
              go_wp2
              go_meet
              case rel => exact ⟨by rw [HE.out], rfl⟩
            · have t2 : decide ((0 : Int) < (na : Int)) = false := by rw [decide_eq_false_iff_not]; omega
              have u2 : decide (0 < na) = false := by rw [decide_eq_false_iff_not]; omega
              have HE : Hid (b3 = false) := Lib.hid (by
                rw [← Bool.not_eq_true, H3.out]
                rintro (⟨q, q'⟩ | ⟨q, q'⟩)
                · cases q
                · exact z2 q')
              clear z2
              go_wp2
              go_meet
              case rel => exact ⟨by rw [HE.out], rfl⟩
          by_cases z1 : 0 < nb
          · have t1 : decide ((0 : Int) < (nb : Int)) = true := by rw [decide_eq_true_iff]; omega
            have u1 : decide (0 < nb) = true := by rw [decide_eq_true_iff]; omega
            have HE := Lib.hid (H3.out.2 (.inl ⟨rfl, z1⟩))
            clear z1
            go_wp2
            go_meet
            case rel => exact ⟨by rw [HE.out], rfl⟩
          have t1 : decide ((0 : Int) < (nb : Int)) = false := by rw [decide_eq_false_iff_not]; omega
          have u1 : decide (0 < nb) = false := by rw [decide_eq_false_iff_not]; omega
          have Z1 := Lib.hid z1
          clear z1
          cases has
          rotate_left
          · have HE : Hid (b3 = false) := Lib.hid (by
              rw [← Bool.not_eq_true, H3.out]
              rintro (⟨q, q'⟩ | ⟨q, q'⟩)
              · exact Z1.out q'
              · cases q)
            go_wp2
            go_meet
            case rel => exact ⟨by rw [HE.out], rfl⟩
          by_cases z2 : 0 < na
          · have t2 : decide ((0 : Int) < (na : Int)) = true := by rw [decide_eq_true_iff]; omega
            have u2 : decide (0 < na) = true := by rw [decide_eq_true_iff]; omega
            have HE := Lib.hid (H3.out.2 (.inr ⟨rfl, z2⟩))
            clear z2
            go_wp2
            go_meet
            case rel => exact ⟨by rw [HE.out], rfl⟩
          · have t2 : decide ((0 : Int) < (na : Int)) = false := by rw [decide_eq_false_iff_not]; omega
            have u2 : decide (0 < na) = false := by rw [decide_eq_false_iff_not]; omega
            have HE : Hid (b3 = false) := Lib.hid (by
              rw [← Bool.not_eq_true, H3.out]
              rintro (⟨q, q'⟩ | ⟨q, q'⟩)
              · exact Z1.out q'
              · exact z2 q')
            clear z2
            go_wp2
            go_meet
            case rel => exact ⟨by rw [HE.out], rfl⟩
        case rest =>
          obtain ⟨rfl, rfl⟩ := hcut
          cases b3
          rotate_left
          · have F := Lib.hid (NO.out _ HB.out (.inr (.inr (.inl rfl))))
            clear NO
            go_wp2
            go_ret
            exact F.out
          go_upto_region 9 with fail
          go_cut [100] (fun v wx => v = .bool b4 ∧ w2 = wx)
          case first =>
            have v1 : IntKind.i64.wrap ((nt : Int) + (np : Int)) = (nt : Int) + (np : Int) := by rw [IntKind.wrap_i64]; omega
            clear hB1
            by_cases z1 : k = 8
            · have t1 : ((k : Int) != 8) = false := by rw [bne_eq_false_iff_eq]; omega
              have HE : Hid (b4 = false) := Lib.hid (by
                rw [← Bool.not_eq_true, H4.out]
                rintro ⟨q, -⟩
                exact q z1)
              clear z1
              go_wp2
              go_meet
              case rel => exact ⟨by rw [HE.out], rfl⟩
            have t1 : ((k : Int) != 8) = true := by rw [bne_iff_ne]; omega
            by_cases z2 : 0 < nt + np
            · have t2 : decide ((0 : Int) < (nt : Int) + (np : Int)) = true := by rw [decide_eq_true_iff]; omega
              have u2 : decide (0 < nt + np) = true := by rw [decide_eq_true_iff]; omega
              have HE := Lib.hid (H4.out.2 ⟨z1, z2⟩)
              clear z1 z2
              go_wp2
              go_meet
              case rel => exact ⟨by rw [HE.out], rfl⟩
            · have t2 : decide ((0 : Int) < (nt : Int) + (np : Int)) = false := by rw [decide_eq_false_iff_not]; omega
              have u2 : decide (0 < nt + np) = false := by rw [decide_eq_false_iff_not]; omega
              have HE : Hid (b4 = false) := Lib.hid (by
                rw [← Bool.not_eq_true, H4.out]
                rintro ⟨-, q⟩
                exact z2 q)
              clear z1 z2
              go_wp2
              go_meet
              case rel => exact ⟨by rw [HE.out], rfl⟩
          case rest =>
            obtain ⟨rfl, rfl⟩ := hcut
            cases b4
            rotate_left
            · have F := Lib.hid (NO.out _ HB.out (.inr (.inr (.inr (.inl rfl)))))
              clear NO
              go_wp2
              go_ret
              exact F.out
            go_wp2_with fail
            go_loopw [5] (fun iv wr => ∃ j : Nat, j ≤ nt ∧ iv = .int .i64 j ∧ w2 = wr ∧ ∀ i x, i < j → r.txns[i]? = some x → badT x = false) (fun iv _ => nt - (intOf iv).toNat)
            case atStart => exact ⟨0, Nat.zero_le _, rfl, rfl, fun i x h => absurd h (by omega)⟩
            case round =>
              obtain ⟨j, hjn, rfl, rfl, hall⟩ := hrel
              have HALL := Lib.hid hall
              clear hall
              rcases Nat.lt_or_ge j nt with hlt | hge
              · have e1 : decide ((j : Int) < (nt : Int)) = true := by rw [decide_eq_true_iff]; omega
                have e2 : (0 : Int) ≤ (j : Int) := by omega
                have e3 : (j : Int) < (nt : Int) := by omega
                have k1 : j < r.txns.length := by rw [HNT.out]; exact hlt
                obtain ⟨bb, oo, hA, hbb, -, -, -, d3⟩ := hT3.out j k1
                have hg := List.getElem?_eq_getElem k1
                rw [hA] at q10
                generalize r.txns[j] = x at *
                have HG := Lib.hid hg
                generalize hst : x.state = sv at *
                have HST := Lib.hid hst
                clear hst hg hA k1
                by_cases z1 : sv < 1
                · have t1 : decide ((sv : Int) < 1) = true := by rw [decide_eq_true_iff]; omega
                  have F := Lib.hid (NO.out _ HB.out (.inr (.inr (.inr (.inr (by
                    rw [← Bool.not_eq_false, HAG.out]
                    intro q
                    have := q _ _ HG.out
                    unfold badT at this
                    rw [HST.out, decide_eq_true z1] at this
                    cases this))))))
                  clear NO z1
                  go_wp2
                  go_ret
                  exact F.out
                have t1 : decide ((sv : Int) < 1) = false := by rw [decide_eq_false_iff_not]; omega
                by_cases z2 : 3 < sv
                · have t2 : decide ((3 : Int) < (sv : Int)) = true := by rw [decide_eq_true_iff]; omega
                  have F := Lib.hid (NO.out _ HB.out (.inr (.inr (.inr (.inr (by
                    rw [← Bool.not_eq_false, HAG.out]
                    intro q
                    have := q _ _ HG.out
                    unfold badT at this
                    rw [HST.out, decide_eq_true z2, Bool.or_true] at this
                    cases this))))))
                  clear NO z1 z2
                  go_wp2
                  go_ret
                  exact F.out
                have t2 : decide ((3 : Int) < (sv : Int)) = false := by rw [decide_eq_false_iff_not]; omega
                have hbt : Hid (badT x = false) := Lib.hid (by
                  unfold badT
                  rw [HST.out, decide_eq_false z1, decide_eq_false z2]
                  rfl)
                clear z1 z2
                go_wp2
                go_roundw
                case rel => exact ⟨j + 1, by omega, by go_num, (by trivial), fun i x' hi hx => by
                  rcases Nat.lt_or_ge i j with q | q
                  · exact HALL.out i x' q hx
                  · obtain rfl : i = j := by omega
                    rw [HG.out] at hx
                    rw [← Option.some.inj hx]
                    exact hbt.out⟩
                case measure => simp [intOf]; omega
              · obtain rfl : j = nt := by omega
                have e1 : decide ((j : Int) < (j : Int)) = false := by rw [decide_eq_false_iff_not]; omega
                have F : Hid (RmPost r w (.returned (.bool true)) w2) := Lib.hid ⟨by
                  have : okR r = true := by
                    rw [HOK.out]
                    refine ⟨by decide, by decide, by decide, by decide, HAG.out.2 fun i x hx => HALL.out i x ?_ hx⟩
                    have := (List.getElem?_eq_some_iff.1 hx).1
                    rw [HNT.out] at this
                    exact this
                  rw [this], HB.out⟩
                clear NO hge hjn
                go_wp2
                go_ret
                exact F.out
theorem refputn_any (n m : Nat) (w : World) (h1 : n < 18446744073709551616) (h2 : 1 ≤ m) (h3 : m ≤ 8) : Calls Tryz.prog 123 #[.int .u64 n, .int .i64 m] w fun e w' => ∃ A c, e = .returned (.slice A m c) ∧ w'.ownsRow w.heap.size 5 1 (.slice A m c) m ((putF m n).map byteV) ∧ Below w.heap.size w w' := by
  have h := refput_any n m w h1 (by omega) (by omega)
  have e : putB n m = putF m n := by unfold putB; rw [if_pos ⟨by omega, by omega⟩]; simp
  rw [e] at h
  refine h.mono ?_
  rintro e w' ⟨A, c, he, ho, hb, -⟩
  rw [putF_length] at he ho
  exact ⟨A, c, he, ho, hb⟩
theorem putF_one {x : Nat} (h : x < 256) : putF 1 x = [x] := by simp [putF, Nat.mod_eq_of_lt h]
theorem two_bytes (w : World) {x y : Nat} (hx : x < 256) (hy : y < 256) : Bytes (w.alloc (.cells #[.int .u8 (x : Int), .int .u8 (y : Int)] 5)) (w.heap.size + 1) (some ⟨w.heap.size, 0, none⟩) [x, y] :=
  ⟨At.new w [byteV x, byteV y] 5 (0, 0), fun z hz => by simp at hz; omega⟩
theorem chgL_eq (c : ChgP) (f : Nat) (hf : f < 256) (h : flagsN c = f) (h1 : c.before.length < 256) (h2 : c.after.length < 256) : putF 4 c.page ++ putF 2 c.slot ++ [f, c.before.length] ++ c.before ++ [c.after.length] ++ c.after = chgL c := by
  unfold chgL lenL
  rw [h, putF_one hf, putF_one h1, putF_one h2]
  simp
set_option maxHeartbeats 8000000 in
theorem refchange_any (ch : ChgP) (m : ChgM) (B : Nat) (w : World) (h : ChgAt w B ch m) (hB : B ≤ w.heap.size) (h1 : ch.before.length ≤ 200) (h2 : ch.after.length ≤ 200) :
    Calls Tryz.prog 124 #[.agg (chgV ch m)] w (RetBytes 5 (chgL ch) w) := by
  have kb := Blk.new w 47 (chgV ch m)
  have hb := below_alloc w (.cells (chgV ch m) 47)
  have hc := h.below (hb.mono hB)
  have HE : ∀ f : Nat, f < 256 → flagsN ch = f → putF 4 ch.page ++ putF 2 ch.slot ++ [f, ch.before.length] ++ ch.before ++ [ch.after.length] ++ ch.after = chgL ch := fun f hf e => chgL_eq ch f hf e (by omega) (by omega)
  have HF : flagsN ch = (if ch.had then 1 else 0) + (if ch.has then 2 else 0) := rfl
  go_enter Tryz.func124, Tryz.ntmps124
  go_upto_region 1 with fail
  generalize World.alloc w _ = W0 at *
  have hg := kb.lt
  have KB : Hid (∀ W, Below W0.heap.size W0 W → W.cell? ⟨w.heap.size, 0, none⟩ = some (.int .u32 (ch.page : Nat)) ∧ W.cell? ⟨w.heap.size, 1, none⟩ = some (.int .u16 (ch.slot : Nat)) ∧ W.cell? ⟨w.heap.size, 2, none⟩ = some (.bool ch.had) ∧ W.cell? ⟨w.heap.size, 3, none⟩ = some (.bool ch.has) ∧ W.cell? ⟨w.heap.size, 4, none⟩ = some (.slice m.A1 ch.before.length m.c1) ∧ W.cell? ⟨w.heap.size, 5, none⟩ = some (.slice m.A2 ch.after.length m.c2)) := Lib.hid fun W hW => by
    obtain ⟨k0, k1, k2, k3, k4, k5⟩ := ChgBox.of (kb.below hW hg)
    exact ⟨k0, k1, k2, k3, k4, k5⟩
  have HC : Hid (∀ W, Below W0.heap.size W0 W → Bytes W B m.A1 ch.before ∧ Bytes W B m.A2 ch.after) := Lib.hid fun W hW => ⟨hc.bef.below (hW.mono (Nat.le_trans hB hb.size)), hc.aft.below (hW.mono (Nat.le_trans hB hb.size))⟩
  have HB := Lib.hid hb
  have HE := Lib.hid HE
  have HF := Lib.hid HF
  obtain ⟨f0, f1, -, -⟩ := h.fits
  have k0 := (KB.out W0 (Below.refl _ _)).1
  clear kb hb hc h
  generalize chgL ch = L at *
  generalize flagsN ch = fl at *
  generalize ch.before = bef at *
  generalize ch.after = aft at *
  generalize ch.page = pg at *
  generalize ch.slot = sl at *
  generalize ch.had = had at *
  generalize ch.has = has at *
  have v1 : IntKind.u64.wrap (pg : Int) = (pg : Int) := by rw [IntKind.wrap_u64]; omega
  have v2 : IntKind.u64.wrap (sl : Int) = (sl : Int) := by rw [IntKind.wrap_u64]; omega
  go_wp2_with fail
  refine (refputn_any pg 4 W0 (by omega) (by omega) (by omega)).mono ?_
  rintro e w1 ⟨A1, c1, rfl, o1, b1⟩
  have r1 := RB.of_ret (Below.refl _ W0) o1 b1 (putF_small 4 pg) (putF_length 4 pg)
  have k1 := (KB.out w1 r1.2.1).2.1
  clear o1 b1 k0 v1
  go_wp2_with fail
  refine (refputn_any sl 2 w1 (by omega) (by omega) (by omega)).mono ?_
  rintro e v2' ⟨B2, d2, rfl, o2, b2⟩
  have q2 := r1.keep b2
  have x2 := own_bytes o2 (putF_small 2 sl)
  clear o2 b2 r1 k1 v2
  go_upto_region 3 with (at_builtin; refine wpList_append_rb rfl _ _ 45 45 rfl Tryz.underlying45 Tryz.underlying45 q2 rfl v2'.heap.size B2 2 d2 (putF 2 sl) rfl x2 (putF_length _ _) (by omega) ?_; intro A2 c2 w2 r2; clear q2 x2)
  have kk := KB.out w2 r2.2.1
  obtain ⟨-, -, k2, k3, k4, -⟩ := kk
  obtain ⟨nb, hnb⟩ : ∃ nb, bef.length = nb := ⟨_, rfl⟩
  obtain ⟨na, hna⟩ : ∃ na, aft.length = na := ⟨_, rfl⟩
  rw [hnb] at h1 k4
  rw [hna] at h2
  have HN := Lib.hid (And.intro hnb hna)
  clear hnb hna
  have g1 : IntKind.u8.wrap (nb : Int) = (nb : Int) := by rw [IntKind.wrap_u8]; omega
  have g2 : (nb : Int) % 256 = (nb : Int) := by omega
  have g3 : IntKind.u8.wrap (na : Int) = (na : Int) := by rw [IntKind.wrap_u8]; omega
  have g4 : (na : Int) % 256 = (na : Int) := by omega
  have FL : ∃ f : Nat, f < 256 ∧ fl = f ∧ ((had = false ∧ has = false ∧ f = 0) ∨ (had = true ∧ has = false ∧ f = 1) ∨ (had = false ∧ has = true ∧ f = 2) ∨ (had = true ∧ has = true ∧ f = 3)) := by
    rw [HF.out]
    cases had <;> cases has <;> simp
  obtain ⟨f, hf, hfl, FL⟩ := FL
  have HFL := Lib.hid (And.intro hf hfl)
  clear hfl hf
  rcases FL with ⟨rfl, rfl, rfl⟩ | ⟨rfl, rfl, rfl⟩ | ⟨rfl, rfl, rfl⟩ | ⟨rfl, rfl, rfl⟩
  all_goals
    go_upto_region 9 with (at_builtin; refine wpList_append_rb rfl _ _ 45 45 rfl Tryz.underlying45 Tryz.underlying45 (r2.alloc _) rfl (w2.heap.size + 1) (some ⟨w2.heap.size, 0, none⟩) 2 2 [_, nb] rfl (two_bytes w2 HFL.out.1 (by omega)) rfl (by omega) ?_; intro A3 c3 w3 r3; clear r2)
    have kk := KB.out w3 r3.2.1
    obtain ⟨-, -, -, -, k4', -⟩ := kk
    rw [HN.out.1] at k4'
    have xb := (HC.out w3 r3.2.1).1
    clear k2 k3 k4
    go_upto_region 10 with (at_builtin; refine wpList_append_rb rfl _ _ 45 45 rfl Tryz.underlying45 Tryz.underlying45 r3 rfl B m.A1 nb m.c1 bef rfl xb HN.out.1 (by omega) ?_; intro A4 c4 w4 r4; clear r3 xb)
    have kk := KB.out w4 r4.2.1
    obtain ⟨-, -, -, -, -, k5⟩ := kk
    rw [HN.out.2] at k5
    clear k4'
    go_upto_region 11 with (at_builtin; refine wpList_append_rb rfl _ _ 45 45 rfl Tryz.underlying45 Tryz.underlying45 (r4.alloc _) rfl (w4.heap.size + 1) (some ⟨w4.heap.size, 0, none⟩) 1 1 [na] rfl (one_bytes w4 (by omega)) rfl (by omega) ?_; intro A5 c5 w5 r5; clear r4)
    have kk := KB.out w5 r5.2.1
    obtain ⟨-, -, -, -, -, k5'⟩ := kk
    rw [HN.out.2] at k5'
    have xa := (HC.out w5 r5.2.1).2
    clear k5
    go_wp2_with (at_builtin; refine wpList_append_rb rfl _ _ 45 45 rfl Tryz.underlying45 Tryz.underlying45 r5 rfl B m.A2 na m.c2 aft rfl xa HN.out.2 (by omega) ?_; intro A6 c6 w6 r6; clear r5 xa)
    go_ret
    have hret := r6.ret HB.out
    rw [← HE.out _ HFL.out.1 HFL.out.2, HN.out.1, HN.out.2]
    exact hret
theorem wpList_append_rk {w : World} {ops : Array Oper} {rest : List Oper} {o : Oper} {a : Act} {Q : Exit → Act → World → Prop} (hgd : o.guard = none) (s x : Operand) (t t' : TypeId)
    (ho : o.op = .call { callee := .builtin .append, args := #[s, x], argTypes := #[t, t'] })
    (ht : Tryz.prog.underlying t = some (.slice 5)) (ht' : Tryz.prog.underlying t' = some (.slice 5)) {w0 : World} {A : Option Addr} {n c : Nat} {l : List Nat} (h : RB w0 w A n c l) (hs : a.eval s = .slice A n c)
    (B : Nat) (A1 : Option Addr) (m c1 : Nat) (news : List Nat) (hx : a.eval x = .slice A1 m c1) (hb : Bytes w B A1 news) (hm : news.length = m) (hn : n + m ≤ 1000000)
    (k : ∀ A' c' w', RB w0 w' A' (n + m) c' (l ++ news) → (∀ g t cs, t ≠ 5 → Blk w g t cs → Blk w' g t cs) → wpList Tryz.prog ops Q rest (a.put o.dst (.slice A' (n + m) c')) w') : wpList Tryz.prog ops Q (o :: rest) a w := by
  obtain ⟨i0, hi0, hz0, hz1, hz2⟩ := info_parts u8_info
  refine wpList_append_at2 hgd s x t t' ho w0.heap.size 5 i0 _ 1 ht ht' hi0 hz0 hz1 hz2 rfl _ n (l.map byteV) hs h.1 B A1 m c1 (news.map byteV) hx (by rw [List.length_map, hm]) hb.1 (bytes_oneCell _) (by unfold maxLen; omega) (by omega) h.2.1.size ?_
  intro A' c' w' hown hg hat
  refine k A' c' w' ⟨by rw [List.map_append]; exact hown, below_own h.2.1 hg h.1 (Nat.le_refl _) h.2.1.size, small_append h.2.2.1 hb.2, by rw [List.length_append, h.2.2.2, hm]⟩ ?_
  intro g t cs ht hbl
  exact (hg.block g hbl.lt ((own_block ht.symm h.1 hbl).elim (fun e => by rw [e]; simp) Ne.symm)).trans hbl
theorem tabL_txs (l : List Nat) (t : List TxP) (k : Nat) (h : k < t.length) : l ++ (t.take (k + 1)).flatMap txL = ((((l ++ (t.take k).flatMap txL) ++ putF 4 t[k].txn) ++ putF 8 t[k].last) ++ putF 8 t[k].undo) ++ putF 1 t[k].state := by
  rw [tx_next l t k h]
set_option maxHeartbeats 8000000 in
theorem reftables_any (r : RecP) (m : RecMm) (B : Nat) (w : World) (h : RecAt w B r m) (hB : B ≤ w.heap.size) (hn1 : r.txns.length ≤ 64) (hn2 : r.pages.length ≤ 64) :
    Calls Tryz.prog 125 #[.agg (recA r m)] w (RetBytes 5 (tabL r) w) := by
  have kb := Blk.new w 51 (recA r m)
  have hb := below_alloc w (.cells (recA r m) 51)
  have hr := h.below (hb.mono hB)
  have htf := h.fits.txns
  have hpf := h.fits.pages
  have hTL : tabL r = putF 1 r.txns.length ++ r.txns.flatMap txL ++ putF 1 r.pages.length ++ r.pages.flatMap dirL := by unfold tabL; simp only [List.append_assoc]
  obtain ⟨nt, hnt⟩ : ∃ nt, r.txns.length = nt := ⟨_, rfl⟩
  obtain ⟨np, hnp⟩ : ∃ np, r.pages.length = np := ⟨_, rfl⟩
  rw [hnt, hnp] at hTL
  rw [hnt] at hn1
  rw [hnp] at hn2
  have HTL := Lib.hid hTL
  have HN := Lib.hid (And.intro hnt hnp)
  go_enter Tryz.func125, Tryz.ntmps125
  go_upto_region 1 with fail
  generalize World.alloc w _ = W0 at *
  have hg := kb.lt
  have KB : Hid (∀ W, Below W0.heap.size W0 W → W.cell? ⟨w.heap.size, 10, none⟩ = some (.slice m.A3 nt m.c3) ∧ W.cell? ⟨w.heap.size, 11, none⟩ = some (.slice m.A4 np m.c4)) := Lib.hid fun W hW => by
    have q := RecBox.of (kb.below hW hg)
    have q10 := q.k10
    have q11 := q.k11
    rw [hnt] at q10
    rw [hnp] at q11
    exact ⟨q10, q11⟩
  have HT : Hid (∀ W, Below W0.heap.size W0 W → TxsAt W B m.A3 r.txns ∧ DirsAt W B m.A4 r.pages) := Lib.hid fun W hW => ⟨hr.txs.below (hW.mono (Nat.le_trans hB hb.size)), hr.dirs.below (hW.mono (Nat.le_trans hB hb.size))⟩
  have HB := Lib.hid hb
  have HFI := Lib.hid (And.intro htf hpf)
  have g1 : IntKind.u8.wrap (nt : Int) = (nt : Int) := by rw [IntKind.wrap_u8]; omega
  have g2 : (nt : Int) % 256 = (nt : Int) := by omega
  have g3 : IntKind.u8.wrap (np : Int) = (np : Int) := by rw [IntKind.wrap_u8]; omega
  have g4 : (np : Int) % 256 = (np : Int) := by omega
  obtain ⟨q10, -⟩ := KB.out W0 (Below.refl _ _)
  have hlt256 : nt < 256 := by omega
  have hlp256 : np < 256 := by omega
  clear kb hb hr h htf hpf hnt hnp hTL
  go_upto_region 2 with fail
  have r1 := one_rb W0 hlt256
  rw [← putF_one hlt256] at r1
  generalize World.alloc W0 _ = w1 at *
  obtain ⟨A0, hA0⟩ : ∃ A0, (some ⟨W0.heap.size, 0, none⟩ : Option Addr) = A0 := ⟨_, rfl⟩
  rw [hA0] at r1 ⊢
  clear hA0 q10
  go_wp2_with fail
  go_loopw [3, 4, 5] (fun bv iv _ wr => ∃ (k n c : Nat) (A : Option Addr), k ≤ nt ∧ n ≤ 1 + 21 * k ∧ iv = .int .i64 k ∧ bv = .slice A n c ∧ RB W0 wr A n c (putF 1 nt ++ (r.txns.take k).flatMap txL)) (fun _ iv _ _ => nt - (intOf iv).toNat)
  case atStart => exact ⟨0, 1, 1, A0, Nat.zero_le _, by omega, rfl, rfl, by simpa using r1⟩
  case round =>
    clear r1
    obtain ⟨k, n, c, A, hkn, hnk, rfl, rfl, hr⟩ := hrel
    obtain ⟨q10, q11⟩ := KB.out wr hr.2.1
    rcases Nat.lt_or_ge k nt with hlt | hge
    · have e1 : decide ((k : Int) < (nt : Int)) = true := by rw [decide_eq_true_iff]; omega
      have e2 : (0 : Int) ≤ (k : Int) := by omega
      have e3 : (k : Int) < (nt : Int) := by omega
      have hkl : k < r.txns.length := by rw [HN.out.1]; exact hlt
      obtain ⟨b, o, hA3, hbB, c0, c1, c2, c3⟩ := (HT.out wr hr.2.1).1 k hkl
      have hnx := tabL_txs (putF 1 nt) r.txns k hkl
      have hfit := HFI.out.1 _ (List.getElem_mem hkl)
      rw [hA3] at q10
      generalize (r.txns.take k).flatMap txL = tl at *
      generalize r.txns[k] = x at *
      obtain ⟨f0, f1, f2, f3⟩ := hfit
      have ld := load_tx c0 c1 c2 c3
      have st := store_tx wr x
      have kt := Blk.new wr 145 (txV x)
      have h3 := hr.alloc (.cells (txV x) 145)
      have v4 : IntKind.u64.wrap (x.txn : Int) = (x.txn : Int) := by rw [IntKind.wrap_u64]; omega
      have HX := Lib.hid hnx
      have hn5 : n ≤ 2000 := by omega
      clear hnx hr c0 c1 c2 c3 hA3 q11
      go_upto_region 6 with (first | (refine wpList_load_run rfl 145 (.tmp 22) _ _ rfl rfl ld ?_; clear ld) | (refine wpList_store_run rfl 145 (.tmp 5) (.tmp 23) _ _ rfl rfl rfl st ?_; clear st))
      generalize World.alloc wr _ = w3 at *
      generalize wr.heap.size = gx at *
      generalize putF 1 nt ++ tl = l0 at *
      have p0 : w3.cell? ⟨gx, 0, none⟩ = some (.int .u32 (x.txn : Nat)) := kt.cell 0
      go_wp2_with fail
      refine (refputn_any x.txn 4 w3 (by omega) (by omega) (by omega)).mono ?_
      rintro e v4' ⟨B4, d4, rfl, o4, b4⟩
      have q4 := h3.keep b4
      have x4 := own_bytes o4 (putF_small 4 x.txn)
      have kt4 := kt.below b4 kt.lt
      clear o4 b4 h3 p0 v4 kt
      go_upto_region 7 with (at_builtin; refine wpList_append_rk rfl _ _ 45 45 rfl Tryz.underlying45 Tryz.underlying45 q4 rfl v4'.heap.size B4 4 d4 (putF 4 x.txn) rfl x4 (putF_length _ _) (by omega) ?_; intro A4 c4 w4 r4 t5; clear q4 x4)
      have kt5 := t5 _ _ _ (by decide) kt4
      have p1 : w4.cell? ⟨gx, 1, none⟩ = some (.int .u64 (x.last : Nat)) := kt5.cell 1
      clear t5 kt4
      go_wp2_with fail
      refine (refputn_any x.last 8 w4 f1 (by omega) (by omega)).mono ?_
      rintro e v5 ⟨B5, d5, rfl, o5, b5⟩
      have q5 := r4.keep b5
      have x5 := own_bytes o5 (putF_small 8 x.last)
      have kt6 := kt5.below b5 kt5.lt
      clear o5 b5 r4 p1 kt5
      go_upto_region 8 with (at_builtin; refine wpList_append_rk rfl _ _ 45 45 rfl Tryz.underlying45 Tryz.underlying45 q5 rfl v5.heap.size B5 8 d5 (putF 8 x.last) rfl x5 (putF_length _ _) (by omega) ?_; intro A5 c5 w5 r5 t6; clear q5 x5)
      have kt7 := t6 _ _ _ (by decide) kt6
      have p2 : w5.cell? ⟨gx, 2, none⟩ = some (.int .u64 (x.undo : Nat)) := kt7.cell 2
      clear t6 kt6
      go_wp2_with fail
      refine (refputn_any x.undo 8 w5 f2 (by omega) (by omega)).mono ?_
      rintro e v6 ⟨B6, d6, rfl, o6, b6⟩
      have q6 := r5.keep b6
      have x6 := own_bytes o6 (putF_small 8 x.undo)
      have kt8 := kt7.below b6 kt7.lt
      clear o6 b6 r5 p2 kt7
      go_upto_region 9 with (at_builtin; refine wpList_append_rk rfl _ _ 45 45 rfl Tryz.underlying45 Tryz.underlying45 q6 rfl v6.heap.size B6 8 d6 (putF 8 x.undo) rfl x6 (putF_length _ _) (by omega) ?_; intro A6 c6 w6 r6 t7; clear q6 x6)
      have kt9 := t7 _ _ _ (by decide) kt8
      have p3 : w6.cell? ⟨gx, 3, none⟩ = some (.int .u8 (x.state : Nat)) := kt9.cell 3
      clear t7 kt8 kt9
      go_wp2_with (at_builtin; refine wpList_append_rb rfl _ _ 45 45 rfl Tryz.underlying45 Tryz.underlying45 (r6.alloc _) rfl (w6.heap.size + 1) (some ⟨w6.heap.size, 0, none⟩) 1 1 [x.state] rfl (one_bytes w6 f3) rfl (by omega) ?_; intro A7 c7 w7 r7; clear r6)
      rw [← putF_one f3, ← HX.out] at r7
      have R7 := Lib.hid r7
      clear r7 p3
      go_roundw
      case rel => exact ⟨k + 1, n + 4 + 8 + 8 + 1, c7, A7, by omega, by omega, by go_num, rfl, R7.out⟩
      case measure => simp [intOf]; omega
    · obtain rfl : k = nt := by omega
      have e1 : decide ((k : Int) < (k : Int)) = false := by rw [decide_eq_false_iff_not]; omega
      rw [List.take_of_length_le (by rw [HN.out.1]; omega)] at hr
      have hn5 : n ≤ 2000 := by omega
      generalize putF 1 k ++ r.txns.flatMap txL = l1 at *
      clear hge hkn hnk
      have hbp : Bytes (wr.alloc (.cells #[.int .u8 (np : Int)] 5)) (wr.heap.size + 1) (some ⟨wr.heap.size, 0, none⟩) [np] := one_bytes wr hlp256
      go_upto_region 11 with (at_builtin; refine wpList_append_rb rfl _ _ 45 45 rfl Tryz.underlying45 Tryz.underlying45 (hr.alloc _) rfl (wr.heap.size + 1) (some ⟨wr.heap.size, 0, none⟩) 1 1 [np] rfl hbp rfl (by omega) ?_; intro A2 c2 w2 r2; clear hr hbp)
      rw [← putF_one hlp256] at r2
      generalize l1 ++ putF 1 np = l2 at *
      obtain ⟨n2, hn2'⟩ : ∃ n2, n + 1 = n2 := ⟨_, rfl⟩
      rw [hn2'] at r2 ⊢
      have hn6 : n2 ≤ 2001 := by omega
      clear q10 q11 hn5 hn2'
      go_wp2_with fail
      go_loopw [3, 6] (fun bv iv wr => ∃ (j n c : Nat) (A : Option Addr), j ≤ np ∧ n ≤ 2001 + 12 * j ∧ iv = .int .i64 j ∧ bv = .slice A n c ∧ RB W0 wr A n c (l2 ++ (r.pages.take j).flatMap dirL)) (fun _ iv _ => np - (intOf iv).toNat)
      case atStart => exact ⟨0, n2, c2, A2, Nat.zero_le _, by omega, rfl, rfl, by simpa using r2⟩
      case round =>
        clear r2 hn6
        obtain ⟨j, n3, c3, A3, hjn, hnj, rfl, rfl, hr⟩ := hrel
        rename World => wq
        obtain ⟨q10, q11⟩ := KB.out wq hr.2.1
        rcases Nat.lt_or_ge j np with hlt | hge
        · have e1 : decide ((j : Int) < (np : Int)) = true := by rw [decide_eq_true_iff]; omega
          have e2 : (0 : Int) ≤ (j : Int) := by omega
          have e3 : (j : Int) < (np : Int) := by omega
          have hjl : j < r.pages.length := by rw [HN.out.2]; exact hlt
          have hAT := Lib.hid ((HT.out wq hr.2.1).2 j hjl)
          obtain ⟨b, o, hA4, hbB, c0, c1⟩ := hAT.out
          have hlow : b < W0.heap.size := Nat.lt_of_lt_of_le hbB (Nat.le_trans hB HB.out.size)
          have hnx := dir_next l2 r.pages j hjl
          have hfit := HFI.out.2 _ (List.getElem_mem hjl)
          rw [hA4] at q11
          generalize (r.pages.take j).flatMap dirL = tl at *
          generalize r.pages[j] = x at *
          obtain ⟨f0, f1⟩ := hfit
          have CX : Hid (∀ W, Below W0.heap.size W0 W → W0.cell? ⟨b, o + j * 2 + 1, none⟩ = some (.int .u64 (x.first : Nat)) → W.cell? ⟨b, o + j * 2 + 1, none⟩ = some (.int .u64 (x.first : Nat)) ∧ W.cell? ⟨w.heap.size, 11, none⟩ = some (.slice (some ⟨b, o, none⟩) np m.c4)) := Lib.hid fun W hW hz => ⟨(hW.cell (p := ⟨b, _, none⟩) hlow).trans hz, hA4 ▸ (KB.out W hW).2⟩
          have c1z : W0.cell? ⟨b, o + j * 2 + 1, none⟩ = some (.int .u64 (x.first : Nat)) := (hr.2.1.cell (p := ⟨b, _, none⟩) hlow).symm.trans c1
          have C1Z := Lib.hid c1z
          have v4 : IntKind.u64.wrap (x.page : Int) = (x.page : Int) := by rw [IntKind.wrap_u64]; omega
          have HX := Lib.hid hnx
          have hn5 : n3 ≤ 3000 := by omega
          clear hnx c1 c1z hA4 q10 hAT
          generalize l2 ++ tl = l0 at *
          go_wp2_with fail
          refine (refputn_any x.page 4 wq (by omega) (by omega) (by omega)).mono ?_
          rintro e v5 ⟨B4, d4, rfl, o4, b4⟩
          have q4 := hr.keep b4
          have x4 := own_bytes o4 (putF_small 4 x.page)
          clear o4 b4 hr c0 v4 q11
          go_upto_region 15 with (at_builtin; refine wpList_append_rb rfl _ _ 45 45 rfl Tryz.underlying45 Tryz.underlying45 q4 rfl v5.heap.size B4 4 d4 (putF 4 x.page) rfl x4 (putF_length _ _) (by omega) ?_; intro A4 c4 w4 r4; clear q4 x4)
          obtain ⟨c1', q11'⟩ := CX.out w4 r4.2.1 C1Z.out
          go_wp2_with fail
          refine (refputn_any x.first 8 w4 f1 (by omega) (by omega)).mono ?_
          rintro e v6 ⟨B5, d5, rfl, o5, b5⟩
          have q5 := r4.keep b5
          have x5 := own_bytes o5 (putF_small 8 x.first)
          clear o5 b5 r4 c1' q11'
          go_wp2_with (at_builtin; refine wpList_append_rb rfl _ _ 45 45 rfl Tryz.underlying45 Tryz.underlying45 q5 rfl v6.heap.size B5 8 d5 (putF 8 x.first) rfl x5 (putF_length _ _) (by omega) ?_; intro A5 c5 w5 r5; clear q5 x5)
          rw [← HX.out] at r5
          have R5 := Lib.hid r5
          clear r5
          go_roundw
          case rel => exact ⟨j + 1, n3 + 4 + 8, c5, A5, by omega, by omega, by go_num, rfl, R5.out⟩
          case measure => simp [intOf]; omega
        · obtain rfl : j = np := by omega
          have e1 : decide ((j : Int) < (j : Int)) = false := by rw [decide_eq_false_iff_not]; omega
          rw [List.take_of_length_le (by rw [HN.out.2]; omega)] at hr
          have F := hr.ret HB.out
          rw [← HTL.out] at F
          have FF := Lib.hid F
          clear hr F
          go_wp2
          go_ret
          exact FF.out
def RefEncPost (r : RecP) (w : World) (e : Ending) (w' : World) : Prop :=
  Below w.heap.size w w' ∧ ((okR r = true ∧ ∃ A c, e = .returned (.tuple #[.slice A (encL r).length c, .int .i64 0]) ∧ w'.ownsRow w.heap.size 5 1 (.slice A (encL r).length c) (encL r).length ((encL r).map byteV)) ∨
    (okR r = false ∧ e = .returned (.tuple #[.slice none 0 0, .int .i64 61])))
set_option maxHeartbeats 8000000 in
theorem refencode_any (r : RecP) (m : RecMm) (B : Nat) (w : World) (h : RecAt w B r m) (hB : B ≤ w.heap.size) :
    Calls Tryz.prog 87 #[.agg (recA r m)] w (RefEncPost r w) := by
  have kb := Blk.new w 51 (recA r m)
  have hb := below_alloc w (.cells (recA r m) 51)
  have hr := h.below (hb.mono hB)
  obtain ⟨f0, f1, f2, f3, -, -, -⟩ := h.fits
  go_enter Tryz.func87, Tryz.ntmps87
  go_upto_region 1 with fail
  generalize World.alloc w _ = W0 at *
  have hg := kb.lt
  have LD : Hid (∀ W, Below W0.heap.size W0 W → (Instr.loadAt 51 (.pointer (some ⟨w.heap.size, 0, none⟩))).run Tryz.prog W = .ok (.agg (recA r m)) W ∧ (Instr.loadAt 47 (.pointer (some ⟨w.heap.size, 4, none⟩))).run Tryz.prog W = .ok (.agg (chgV r.chg m.cm)) W) := Lib.hid fun W hW => ⟨load_rec (kb.below hW hg), load_chg (kb.below hW hg)⟩
  have KB : Hid (∀ W, Below W0.heap.size W0 W → W.cell? ⟨w.heap.size, 0, none⟩ = some (.int .u8 (r.kind : Nat)) ∧ W.cell? ⟨w.heap.size, 1, none⟩ = some (.int .u32 (r.txn : Nat)) ∧ W.cell? ⟨w.heap.size, 2, none⟩ = some (.int .u64 (r.prev : Nat)) ∧ W.cell? ⟨w.heap.size, 3, none⟩ = some (.int .u64 (r.next : Nat))) := Lib.hid fun W hW => by
    have q := RecBox.of (kb.below hW hg)
    exact ⟨q.k0, q.k1, q.k2, q.k3⟩
  have HR : Hid (∀ W, Below W0.heap.size W0 W → RecAt W B r m) := Lib.hid fun W hW => hr.below (hW.mono (Nat.le_trans hB hb.size))
  have HB := Lib.hid hb
  have hBW : B ≤ W0.heap.size := Nat.le_trans hB hb.size
  have ld := (LD.out W0 (Below.refl _ _)).1
  have cm := rmay_any r m B W0 (HR.out W0 (Below.refl _ _)) hBW
  have HOK : Hid (okR r = okR r) := Lib.hid rfl
  have hlens := fun q : okR r = true => okR_lens q
  have hbody := fun q : okR r = true => bodyL_length q
  have HPB : Hid (bodyL r = headB r ++ (if chgs r.kind = true then chgL r.chg else if r.kind = 8 then tabL r else [])) := Lib.hid rfl
  have HHB : Hid (headB r = [r.kind] ++ putF 4 r.txn ++ putF 8 r.prev ++ putF 8 r.next) := Lib.hid (by unfold headB; rw [putF_one f0])
  have HEN : Hid (encL r = putF 2 ((bodyL r).length + 6) ++ putF 4 (sumB (bodyL r)) ++ bodyL r) := Lib.hid rfl
  have HEP : Hid (∀ e W, RefEncPost r w e W ↔ RefEncPost r w e W) := Lib.hid fun _ _ => Iff.rfl
  unfold RmPost at cm
  clear hr h hb HOK HEP kb
  generalize hok : okR r = ok at *
  have HOK := Lib.hid hok
  clear hok
  go_wp2_with (refine wpList_load_run rfl 51 (.tmp 1) _ _ rfl rfl ld ?_; clear ld)
  refine cm.mono ?_
  rintro e w1 ⟨rfl, b1⟩
  have B1 := Lib.hid b1
  clear cm b1
  cases ok
  · have F : Hid (RefEncPost r w (.returned (.tuple #[.slice none 0 0, .int .i64 61])) w1) := Lib.hid ⟨HB.out.trans (B1.out.mono HB.out.size), .inr ⟨HOK.out, rfl⟩⟩
    clear hlens hbody
    go_wp2
    go_ret2
    exact F.out
  have hlens := hlens rfl
  have hbody := hbody rfl
  obtain ⟨k0, -, -, -⟩ := KB.out w1 B1.out
  generalize r.kind = k at *
  generalize r.txn = tx at *
  generalize r.prev = pv at *
  generalize r.next = nx at *
  have v1 : IntKind.u64.wrap (tx : Int) = (tx : Int) := by rw [IntKind.wrap_u64]; omega
  go_upto_region 5 with fail
  have r1 := one_rb w1 f0
  generalize World.alloc w1 _ = w2 at *
  obtain ⟨A0, hA0⟩ : ∃ A0, (some ⟨w1.heap.size, 0, none⟩ : Option Addr) = A0 := ⟨_, rfl⟩
  rw [hA0] at r1 ⊢
  have TW : Hid (∀ W, Below w1.heap.size w1 W → Below W0.heap.size W0 W) := Lib.hid fun W hW => B1.out.trans (hW.mono B1.out.size)
  obtain ⟨k0, k1, -, -⟩ := KB.out w2 (TW.out _ r1.2.1)
  clear hA0
  go_wp2_with fail
  refine (refputn_any tx 4 w2 (by omega) (by omega) (by omega)).mono ?_
  rintro e v2 ⟨B2, d2, rfl, o2, b2⟩
  have q2 := r1.keep b2
  have x2 := own_bytes o2 (putF_small 4 tx)
  clear o2 b2 r1 k0 k1 v1
  go_upto_region 6 with (at_builtin; refine wpList_append_rb rfl _ _ 45 45 rfl Tryz.underlying45 Tryz.underlying45 q2 rfl v2.heap.size B2 4 d2 (putF 4 tx) rfl x2 (putF_length _ _) (by omega) ?_; intro A2 c2 w3 r2; clear q2 x2)
  obtain ⟨-, -, k2, -⟩ := KB.out w3 (TW.out _ r2.2.1)
  go_wp2_with fail
  refine (refputn_any pv 8 w3 f2 (by omega) (by omega)).mono ?_
  rintro e v3 ⟨B3, d3, rfl, o3, b3⟩
  have q3 := r2.keep b3
  have x3 := own_bytes o3 (putF_small 8 pv)
  clear o3 b3 r2 k2
  go_upto_region 7 with (at_builtin; refine wpList_append_rb rfl _ _ 45 45 rfl Tryz.underlying45 Tryz.underlying45 q3 rfl v3.heap.size B3 8 d3 (putF 8 pv) rfl x3 (putF_length _ _) (by omega) ?_; intro A3 c3 w4 r3; clear q3 x3)
  obtain ⟨-, -, -, k3⟩ := KB.out w4 (TW.out _ r3.2.1)
  go_wp2_with fail
  refine (refputn_any nx 8 w4 f3 (by omega) (by omega)).mono ?_
  rintro e v4 ⟨B4, d4, rfl, o4, b4⟩
  have q4 := r3.keep b4
  have x4 := own_bytes o4 (putF_small 8 nx)
  clear o4 b4 r3 k3
  go_upto_region 8 with (at_builtin; refine wpList_append_rb rfl _ _ 45 45 rfl Tryz.underlying45 Tryz.underlying45 q4 rfl v4.heap.size B4 8 d4 (putF 8 nx) rfl x4 (putF_length _ _) (by omega) ?_; intro A4 c4 w5 r4; clear q4 x4)
  rw [← HHB.out] at r4
  obtain ⟨k0, -, -, -⟩ := KB.out w5 (TW.out _ r4.2.1)
  clear HHB
  generalize headB r = hd at *
  replace r4 : RB w1 w5 A4 21 c4 hd := r4
  have HL := Lib.hid hlens
  have HBO := Lib.hid hbody
  clear hlens hbody
  have hc := chgs_cases k
  go_cut [5, 37] (fun u v wx => v = .bool (chgs k) ∧ w5 = wx ∧ ∃ (n c : Nat) (A : Option Addr), u = .slice A n c ∧ n ≤ 21 ∧ RB w1 w5 A n c hd)
  case first =>
    have R4 := Lib.hid r4
    clear r4
    rcases hc with ⟨rfl, e⟩ | ⟨e1, rfl, e⟩ | ⟨e1, e2, e⟩
    · have HE := Lib.hid e
      clear e
      go_wp2
      go_meet
      case rel => exact ⟨rfl, rfl, 21, c4, A4, rfl, Nat.le_refl _, R4.out⟩
    · have HE := Lib.hid e
      clear e e1
      go_wp2
      go_meet
      case rel => exact ⟨rfl, rfl, 21, c4, A4, rfl, Nat.le_refl _, R4.out⟩
    · have t1 : ((k : Int) == 2) = false := by rw [beq_eq_false_iff_ne]; omega
      have t2 : ((k : Int) == 3) = false := by rw [beq_eq_false_iff_ne]; omega
      have HE := Lib.hid e
      clear e
      go_wp2
      go_meet
      case rel => exact ⟨by rw [HE.out], rfl, 21, c4, A4, rfl, Nat.le_refl _, R4.out⟩
  case rest =>
    clear r4
    obtain ⟨rfl, rfl, n, c, A, rfl, hn21, r4⟩ := hcut
    have h38 : chgs k = true → k ≠ 8 := fun q => by
      rcases hc with ⟨rfl, -⟩ | ⟨-, rfl, -⟩ | ⟨-, -, e⟩
      · decide
      · decide
      · rw [e] at q; cases q
    clear hc
    have LAST : ∃ x, (chgs k = true ∧ ((k : Int) == 8) = false ∧ x = chgL r.chg) ∨ (chgs k = false ∧ ((k : Int) == 8) = true ∧ x = tabL r) ∨ (chgs k = false ∧ ((k : Int) == 8) = false ∧ x = []) := by
      rcases hk : chgs k with _ | _
      · by_cases h8 : k = 8
        · exact ⟨_, .inr (.inl ⟨rfl, by rw [beq_iff_eq]; omega, rfl⟩)⟩
        · exact ⟨_, .inr (.inr ⟨rfl, by rw [beq_eq_false_iff_ne]; omega, rfl⟩)⟩
      · have := h38 hk
        exact ⟨_, .inl ⟨rfl, by rw [beq_eq_false_iff_ne]; omega, rfl⟩⟩
    obtain ⟨x, hx⟩ := LAST
    have HBL : Hid (bodyL r = hd ++ x) := Lib.hid (by
      rw [HPB.out]
      rcases hx with ⟨e, -, rfl⟩ | ⟨e, e8, rfl⟩ | ⟨e, e8, rfl⟩
      · rw [if_pos e]
      · rw [if_neg (by rw [e]; decide), if_pos (by rw [beq_iff_eq] at e8; omega)]
      · rw [if_neg (by rw [e]; decide), if_neg (by rw [beq_eq_false_iff_ne] at e8; omega)])
    obtain ⟨bn, hbn⟩ : ∃ bn, (hd ++ x).length = bn := ⟨_, rfl⟩
    have HBN : Hid ((hd ++ x).length = bn ∧ 21 ≤ bn ∧ bn ≤ 2200) := Lib.hid (by
      have := HBO.out (by trivial)
      rw [HBL.out, hbn] at this
      exact ⟨hbn, this⟩)
    have hx2200 : x.length ≤ 2200 := by
      have := HBN.out
      rw [List.length_append] at this
      omega
    clear hbn h38 HBO
    rcases hx with ⟨e, e8, rfl⟩ | ⟨e, e8, rfl⟩ | ⟨e, e8, rfl⟩
    · rw [e]
      have ld := (LD.out w5 (TW.out _ r4.2.1)).2
      have hb5 := TW.out _ r4.2.1
      have cc := refchange_any r.chg m.cm B w5 (HR.out w5 hb5).chg (Nat.le_trans hBW hb5.size) (Nat.le_trans (HL.out (by trivial)).2.2.1 (by decide)) (Nat.le_trans (HL.out (by trivial)).2.2.2 (by decide))
      clear hb5 e k0
      generalize chgL r.chg = x at *
      go_wp2_with (refine wpList_load_run rfl 47 (.tmp 39) _ _ rfl rfl ld ?_; clear ld)
      refine cc.mono ?_
      rintro e w6 hret
      obtain ⟨A5, c5, rfl, -, b6, x6⟩ := hret.is
      have q5 := r4.keep b6
      obtain ⟨xn, hxn⟩ : ∃ xn, x.length = xn := ⟨_, rfl⟩
      rw [hxn] at hx2200 ⊢
      clear hret b6 r4 cc
      go_upto_region 10 with (at_builtin; refine wpList_append_rb rfl _ _ 45 45 rfl Tryz.underlying45 Tryz.underlying45 q5 rfl w6.heap.size A5 xn c5 x rfl x6 hxn (by omega) ?_; intro A6 c6 w7 r5; clear q5 x6)
      obtain ⟨k0, -, -, -⟩ := KB.out w7 (TW.out _ r5.2.1)
      have hnn : n + xn = bn := r5.2.2.2.symm.trans HBN.out.1
      rw [hnn] at r5 ⊢
      clear hnn hxn hx2200 hn21
      have R5 := Lib.hid r5
      clear r5
      go_upto_region 12 with fail
      clear k0 e8
      generalize hd ++ x = L at *
      have HL5 := Lib.hid R5.out.bytes
      obtain ⟨N, hN⟩ : ∃ N, bn + 6 = N := ⟨_, rfl⟩
      have hbn := HBN.out
      have v1 : IntKind.i64.wrap ((bn : Int) + 6) = (N : Int) := by rw [IntKind.wrap_i64]; omega
      have v2 : IntKind.u64.wrap (N : Int) = (N : Int) := by rw [IntKind.wrap_u64]; omega
      have cp := refputn_any N 2 w7 (by omega) (by omega) (by omega)
      have HNN := Lib.hid hN
      have hb22 := hbn.2.2
      clear hN hbn
      go_wp2_with fail
      refine cp.mono ?_
      rintro e w8 ⟨A8, c8, rfl, o8, b8⟩
      have r8 := RB.of_ret (Below.refl _ w7) o8 b8 (putF_small 2 N) (putF_length 2 N)
      have l8 := HL5.out.below b8
      have csum := refsum_any A6 c6 L w7.heap.size w8 l8 (by rw [HBN.out.1]; exact Nat.le_trans HBN.out.2.2 (by decide))
      rw [HBN.out.1] at csum
      have hs := sumB_lt HL5.out.2
      have HS : Hid (CrcMath.sumFrom 0 L = sumB L) := Lib.hid rfl
      rw [HS.out] at csum
      generalize hss : sumB L = s at *
      have HSS := Lib.hid hss
      clear hss
      have v3 : IntKind.u64.wrap (s : Int) = (s : Int) := by rw [IntKind.wrap_u64]; omega
      clear cp o8 b8 v1 v2
      go_wp2_with fail
      refine csum.mono ?_
      rintro e w9 ⟨rfl, rfl⟩
      clear csum
      go_wp2_with fail
      refine (refputn_any s 4 w8 (by omega) (by omega) (by omega)).mono ?_
      rintro e w9 ⟨A9, c9, rfl, o9, b9⟩
      have q9 := r8.keep b9
      have x9 := own_bytes o9 (putF_small 4 s)
      clear o9 b9 r8 v3 l8
      go_upto_region 14 with (at_builtin; refine wpList_append_rb rfl _ _ 45 45 rfl Tryz.underlying45 Tryz.underlying45 q9 rfl w9.heap.size A9 4 c9 (putF 4 s) rfl x9 (putF_length _ _) (by omega) ?_; intro A10 c10 w10 r10; clear q9 x9)
      have l10 := HL5.out.below r10.2.1
      go_wp2_with (at_builtin; refine wpList_append_rb rfl _ _ 45 45 rfl Tryz.underlying45 Tryz.underlying45 r10 rfl w7.heap.size A6 bn c6 L rfl l10 HBN.out.1 (by omega) ?_; intro A11 c11 w11 r11; clear r10 l10)
      have hle : (encL r).length = 2 + 4 + bn := by rw [HEN.out, HBL.out, List.length_append, List.length_append, putF_length, putF_length, HBN.out.1]
      have hb7 : Below w.heap.size w w7 := HB.out.trans ((TW.out _ R5.out.2.1).mono HB.out.size)
      have o11 : w11.ownsRow w.heap.size 5 1 (.slice A11 (encL r).length c11) (encL r).length ((encL r).map byteV) := by
        rw [hle, HEN.out, HBL.out, HBN.out.1, HNN.out, HSS.out]
        exact own_base hb7.size r11.1
      have F : Hid (RefEncPost r w (.returned (.tuple #[.slice A11 (2 + 4 + bn) c11, .int .i64 0])) w11) := Lib.hid ⟨hb7.trans (r11.2.1.mono hb7.size), .inl ⟨HOK.out, A11, c11, by rw [hle], o11⟩⟩
      go_ret2
      exact F.out
    · rw [e]
      go_upto_region 11 with fail
      have ld := (LD.out w5 (TW.out _ r4.2.1)).1
      have hb5 := TW.out _ r4.2.1
      have cc := reftables_any r m B w5 (HR.out w5 hb5) (Nat.le_trans hBW hb5.size) (HL.out (by trivial)).1 (HL.out (by trivial)).2.1
      clear hb5 e k0
      generalize tabL r = x at *
      go_wp2_with (refine wpList_load_run rfl 51 (.tmp 1) _ _ rfl rfl ld ?_; clear ld)
      refine cc.mono ?_
      rintro e w6 hret
      obtain ⟨A5, c5, rfl, -, b6, x6⟩ := hret.is
      have q5 := r4.keep b6
      obtain ⟨xn, hxn⟩ : ∃ xn, x.length = xn := ⟨_, rfl⟩
      rw [hxn] at hx2200 ⊢
      clear hret b6 r4 cc
      go_upto_region 12 with (at_builtin; refine wpList_append_rb rfl _ _ 45 45 rfl Tryz.underlying45 Tryz.underlying45 q5 rfl w6.heap.size A5 xn c5 x rfl x6 hxn (by omega) ?_; intro A6 c6 w7 r5; clear q5 x6)
      have hnn : n + xn = bn := r5.2.2.2.symm.trans HBN.out.1
      rw [hnn] at r5 ⊢
      clear hnn hxn hx2200 hn21 e8
      have R5 := Lib.hid r5
      clear r5
      generalize hd ++ x = L at *
      have HL5 := Lib.hid R5.out.bytes
      obtain ⟨N, hN⟩ : ∃ N, bn + 6 = N := ⟨_, rfl⟩
      have hbn := HBN.out
      have v1 : IntKind.i64.wrap ((bn : Int) + 6) = (N : Int) := by rw [IntKind.wrap_i64]; omega
      have v2 : IntKind.u64.wrap (N : Int) = (N : Int) := by rw [IntKind.wrap_u64]; omega
      have cp := refputn_any N 2 w7 (by omega) (by omega) (by omega)
      have HNN := Lib.hid hN
      have hb22 := hbn.2.2
      clear hN hbn
      go_wp2_with fail
      refine cp.mono ?_
      rintro e w8 ⟨A8, c8, rfl, o8, b8⟩
      have r8 := RB.of_ret (Below.refl _ w7) o8 b8 (putF_small 2 N) (putF_length 2 N)
      have l8 := HL5.out.below b8
      have csum := refsum_any A6 c6 L w7.heap.size w8 l8 (by rw [HBN.out.1]; exact Nat.le_trans HBN.out.2.2 (by decide))
      rw [HBN.out.1] at csum
      have hs := sumB_lt HL5.out.2
      have HS : Hid (CrcMath.sumFrom 0 L = sumB L) := Lib.hid rfl
      rw [HS.out] at csum
      generalize hss : sumB L = s at *
      have HSS := Lib.hid hss
      clear hss
      have v3 : IntKind.u64.wrap (s : Int) = (s : Int) := by rw [IntKind.wrap_u64]; omega
      clear cp o8 b8 v1 v2
      go_wp2_with fail
      refine csum.mono ?_
      rintro e w9 ⟨rfl, rfl⟩
      clear csum
      go_wp2_with fail
      refine (refputn_any s 4 w8 (by omega) (by omega) (by omega)).mono ?_
      rintro e w9 ⟨A9, c9, rfl, o9, b9⟩
      have q9 := r8.keep b9
      have x9 := own_bytes o9 (putF_small 4 s)
      clear o9 b9 r8 v3 l8
      go_upto_region 14 with (at_builtin; refine wpList_append_rb rfl _ _ 45 45 rfl Tryz.underlying45 Tryz.underlying45 q9 rfl w9.heap.size A9 4 c9 (putF 4 s) rfl x9 (putF_length _ _) (by omega) ?_; intro A10 c10 w10 r10; clear q9 x9)
      have l10 := HL5.out.below r10.2.1
      go_wp2_with (at_builtin; refine wpList_append_rb rfl _ _ 45 45 rfl Tryz.underlying45 Tryz.underlying45 r10 rfl w7.heap.size A6 bn c6 L rfl l10 HBN.out.1 (by omega) ?_; intro A11 c11 w11 r11; clear r10 l10)
      have hle : (encL r).length = 2 + 4 + bn := by rw [HEN.out, HBL.out, List.length_append, List.length_append, putF_length, putF_length, HBN.out.1]
      have hb7 : Below w.heap.size w w7 := HB.out.trans ((TW.out _ R5.out.2.1).mono HB.out.size)
      have o11 : w11.ownsRow w.heap.size 5 1 (.slice A11 (encL r).length c11) (encL r).length ((encL r).map byteV) := by
        rw [hle, HEN.out, HBL.out, HBN.out.1, HNN.out, HSS.out]
        exact own_base hb7.size r11.1
      have F : Hid (RefEncPost r w (.returned (.tuple #[.slice A11 (2 + 4 + bn) c11, .int .i64 0])) w11) := Lib.hid ⟨hb7.trans (r11.2.1.mono hb7.size), .inl ⟨HOK.out, A11, c11, by rw [hle], o11⟩⟩
      go_ret2
      exact F.out
    · rw [e]
      have hnn : n = bn := r4.2.2.2.symm.trans (by rw [← HBN.out.1, List.append_nil])
      subst hnn
      have r5 : RB w1 w5 A n c (hd ++ []) := by rw [List.append_nil]; exact r4
      have R5 := Lib.hid r5
      clear r4 r5 e
      go_upto_region 12 with fail
      clear k0 e8
      generalize hd ++ [] = L at *
      have HL5 := Lib.hid R5.out.bytes
      obtain ⟨N, hN⟩ : ∃ N, n + 6 = N := ⟨_, rfl⟩
      have hbn := HBN.out
      have v1 : IntKind.i64.wrap ((n : Int) + 6) = (N : Int) := by rw [IntKind.wrap_i64]; omega
      have v2 : IntKind.u64.wrap (N : Int) = (N : Int) := by rw [IntKind.wrap_u64]; omega
      have cp := refputn_any N 2 w5 (by omega) (by omega) (by omega)
      have HNN := Lib.hid hN
      have hb22 := hbn.2.2
      clear hN hbn
      go_wp2_with fail
      refine cp.mono ?_
      rintro e w8 ⟨A8, c8, rfl, o8, b8⟩
      have r8 := RB.of_ret (Below.refl _ w5) o8 b8 (putF_small 2 N) (putF_length 2 N)
      have l8 := HL5.out.below b8
      have csum := refsum_any A c L w5.heap.size w8 l8 (by rw [HBN.out.1]; exact Nat.le_trans HBN.out.2.2 (by decide))
      rw [HBN.out.1] at csum
      have hs := sumB_lt HL5.out.2
      have HS : Hid (CrcMath.sumFrom 0 L = sumB L) := Lib.hid rfl
      rw [HS.out] at csum
      generalize hss : sumB L = s at *
      have HSS := Lib.hid hss
      clear hss
      have v3 : IntKind.u64.wrap (s : Int) = (s : Int) := by rw [IntKind.wrap_u64]; omega
      clear cp o8 b8 v1 v2
      go_wp2_with fail
      refine csum.mono ?_
      rintro e w9 ⟨rfl, rfl⟩
      clear csum
      go_wp2_with fail
      refine (refputn_any s 4 w8 (by omega) (by omega) (by omega)).mono ?_
      rintro e w9 ⟨A9, c9, rfl, o9, b9⟩
      have q9 := r8.keep b9
      have x9 := own_bytes o9 (putF_small 4 s)
      clear o9 b9 r8 v3 l8
      go_upto_region 14 with (at_builtin; refine wpList_append_rb rfl _ _ 45 45 rfl Tryz.underlying45 Tryz.underlying45 q9 rfl w9.heap.size A9 4 c9 (putF 4 s) rfl x9 (putF_length _ _) (by omega) ?_; intro A10 c10 w10 r10; clear q9 x9)
      have l10 := HL5.out.below r10.2.1
      go_wp2_with (at_builtin; refine wpList_append_rb rfl _ _ 45 45 rfl Tryz.underlying45 Tryz.underlying45 r10 rfl w5.heap.size A n c L rfl l10 HBN.out.1 (by omega) ?_; intro A11 c11 w11 r11; clear r10 l10)
      have hle : (encL r).length = 2 + 4 + n := by rw [HEN.out, HBL.out, List.length_append, List.length_append, putF_length, putF_length, HBN.out.1]
      have hb7 : Below w.heap.size w w5 := HB.out.trans ((TW.out _ R5.out.2.1).mono HB.out.size)
      have o11 : w11.ownsRow w.heap.size 5 1 (.slice A11 (encL r).length c11) (encL r).length ((encL r).map byteV) := by
        rw [hle, HEN.out, HBL.out, HBN.out.1, HNN.out, HSS.out]
        exact own_base hb7.size r11.1
      have F : Hid (RefEncPost r w (.returned (.tuple #[.slice A11 (2 + 4 + n) c11, .int .i64 0])) w11) := Lib.hid ⟨hb7.trans (r11.2.1.mono hb7.size), .inl ⟨HOK.out, A11, c11, by rw [hle], o11⟩⟩
      go_ret2
      exact F.out
end Go.Proofs.YtkganajbilnanaaGreat
