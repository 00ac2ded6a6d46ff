/- rec's document: may. Conditions: the record lies there. -/
import Derived.Test.YthbaoljghofkoaaRecEq
namespace Go.Proofs.Ythbaoljghofkoaa
open Go.ChangeShapes Go.WideShapes Go.ChangeAt Go.RowKit
open NumMath
set_option linter.unusedVariables false
set_option linter.unusedSimpArgs false
set_option maxRecDepth 20000

theorem bool_of (p : Prop) [Decidable p] : ∃ b : Bool, (b = true ↔ p) := ⟨decide p, decide_eq_true_iff⟩
def bad1 (k nt np nb na : Nat) : Prop := k < 1 ∨ 8 < k ∨ 64 < nt ∨ 64 < np ∨ 64 < nb ∨ 64 < na
def bad2 (ch had has : Bool) (pg sl : Nat) : Prop := ch = false ∧ (pg ≠ 0 ∨ sl ≠ 0 ∨ had = true ∨ has = true)
def bad3 (had has : Bool) (nb na : Nat) : Prop := (had = false ∧ 0 < nb) ∨ (has = false ∧ 0 < na)
def bad4 (k nt np : Nat) : Prop := k ≠ 8 ∧ 0 < nt + np
instance (k nt np nb na : Nat) : Decidable (bad1 k nt np nb na) := by unfold bad1; infer_instance
instance (ch had has : Bool) (pg sl : Nat) : Decidable (bad2 ch had has pg sl) := by unfold bad2; infer_instance
instance (had has : Bool) (nb na : Nat) : Decidable (bad3 had has nb na) := by unfold bad3; infer_instance
instance (k nt np : Nat) : Decidable (bad4 k nt np) := by unfold bad4; infer_instance
theorem okR_ref (r : RecP) : okR r = true ↔ ¬ bad1 r.kind r.txns.length r.pages.length r.chg.before.length r.chg.after.length ∧ ¬ bad2 (chgs r.kind) r.chg.had r.chg.has r.chg.page r.chg.slot ∧
    ¬ bad3 r.chg.had r.chg.has r.chg.before.length r.chg.after.length ∧ ¬ bad4 r.kind r.txns.length r.pages.length ∧ r.txns.any badT = false := by
  unfold okR okC bad1 bad2 bad3 bad4
  generalize r.txns.any badT = ab
  generalize chgs r.kind = ch
  generalize r.chg.had = had
  generalize r.chg.has = has
  generalize r.chg.before.length = nb
  generalize r.chg.after.length = na
  generalize r.txns.length = nt
  generalize r.pages.length = np
  generalize r.chg.page = pg
  generalize r.chg.slot = sl
  generalize r.kind = k
  cases had <;> cases has <;> cases ch <;> cases ab <;> simp <;> omega
theorem any_get (l : List TxP) : l.any badT = false ↔ ∀ (i : Nat) (x : TxP), l[i]? = some x → badT x = false := by
  rw [List.any_eq_false]
  constructor
  · intro h i x hi
    have := h _ (List.mem_of_getElem? hi)
    simpa using this
  · intro h x hx
    obtain ⟨i, hi, rfl⟩ := List.mem_iff_getElem.1 hx
    rw [h i _ (List.getElem?_eq_getElem hi)]
    decide
def RmPost (r : RecP) (w : World) (e : Ending) (w' : World) : Prop := e = .returned (.bool (okR r)) ∧ Below w.heap.size w w'
set_option maxHeartbeats 8000000 in
theorem rmay_any (r : RecP) (m : RecMm) (B : Nat) (w : World) (h : RecAt w B r m) (hB : B ≤ w.heap.size) :
    Calls Try.prog 28 #[.agg (recA r m)] w (RmPost r w) := by
  have kb := Blk.new w 31 (recA r m)
  have hb := below_alloc w (.cells (recA r m) 31)
  have hT := h.txs.below (hb.mono hB)
  go_enter Try.func28, Try.ntmps28
  go_upto_region 1 with fail
  generalize World.alloc w _ = w1 at *
  have ld := load_chg kb
  have st := store_chg w1 r.chg m.cm
  have kc := Blk.new w1 27 (chgV r.chg m.cm)
  have kb2 := kb.alloc (.cells (chgV r.chg m.cm) 27)
  have hb2 := below_alloc w1 (.cells (chgV r.chg m.cm) 27)
  have hT2 := hT.below (hb2.mono (Nat.le_trans hB hb.size))
  have HB := Lib.hid (hb.trans (hb2.mono hb.size))
  clear hb hb2 hT kb h
  go_upto_region 2 with (first | (refine wpList_load_run rfl 27 (.tmp 6) _ _ rfl rfl ld ?_; clear ld) | (refine wpList_store_run rfl 27 (.tmp 3) (.tmp 7) _ _ rfl rfl rfl st ?_; clear st))
  generalize World.alloc w1 _ = w2 at *
  generalize w1.heap.size = g2 at *
  have hOK := okR_ref r
  have hAG := any_get r.txns
  obtain ⟨c0, c1, c2, c3, c4, c5⟩ := ChgBox.of kc
  obtain ⟨q0, -, -, -, -, -, -, -, -, -, q10, q11⟩ := RecBox.of kb2
  have hT3 := Lib.hid hT2
  clear kc kb2 hT2
  generalize r.kind = k at *
  generalize r.pages.length = np at *
  generalize hnt : r.txns.length = nt at *
  generalize r.chg.before.length = nb at *
  generalize r.chg.after.length = na at *
  generalize r.chg.page = pg at *
  generalize r.chg.slot = sl at *
  generalize r.chg.had = had at *
  generalize r.chg.has = has at *
  have HNT := Lib.hid hnt
  obtain ⟨b1, h1⟩ := bool_of (bad1 k nt np nb na)
  obtain ⟨b2, h2⟩ := bool_of (bad2 (chgs k) had has pg sl)
  obtain ⟨b3, h3⟩ := bool_of (bad3 had has nb na)
  obtain ⟨b4, h4⟩ := bool_of (bad4 k nt np)
  rw [← h1, ← h2, ← h3, ← h4] at hOK
  have HOK := Lib.hid hOK
  have HAG := Lib.hid hAG
  have H1 := Lib.hid h1
  have H2 := Lib.hid h2
  have H3 := Lib.hid h3
  have H4 := Lib.hid h4
  have NO : Hid (∀ W, Below w.heap.size w W → (b1 = true ∨ b2 = true ∨ b3 = true ∨ b4 = true ∨ r.txns.any badT = true) → RmPost r w (.returned (.bool false)) W) := Lib.hid fun W hW z => by
    refine ⟨?_, hW⟩
    have : okR r = false := by
      rw [← Bool.not_eq_true, HOK.out]
      rintro ⟨y1, y2, y3, y4, y5⟩
      rcases z with z | z | z | z | z
      · exact y1 z
      · exact y2 z
      · exact y3 z
      · exact y4 z
      · rw [z] at y5; cases y5
    rw [this]
  clear hOK hAG h1 h2 h3 h4 hnt
  have hc := chgs_cases k
  dsimp only [Act.put]
  go_cut [4] (fun v wx => v = .bool (chgs k) ∧ w2 = wx)
  case first =>
    rcases hc with ⟨rfl, e⟩ | ⟨e1, rfl, e⟩ | ⟨e1, e2, e⟩
    · have HE := Lib.hid e
      clear e
      go_wp2
      go_meet
      case rel => exact ⟨rfl, rfl⟩
    · have HE := Lib.hid e
      clear e e1
      go_wp2
      go_meet
      case rel => exact ⟨rfl, rfl⟩
    · have t1 : ((k : Int) == 2) = false := by rw [beq_eq_false_iff_ne]; omega
      have t2 : ((k : Int) == 3) = false := by rw [beq_eq_false_iff_ne]; omega
      have HE := Lib.hid e
      clear e
      go_wp2
      go_meet
      case rel => exact ⟨by rw [HE.out], rfl⟩
  case rest =>
    obtain ⟨rfl, rfl⟩ := hcut
    clear hc
    go_upto_region 3 with fail
    go_cut [47] (fun v wx => v = .bool b1 ∧ w2 = wx)
    case first =>
      generalize chgs k = ch at *
      by_cases z1 : k < 1
      · have t1 : decide ((k : Int) < 1) = true := by rw [decide_eq_true_iff]; omega
        have HE := Lib.hid (H1.out.2 (.inl z1))
        clear z1
        go_wp2
        go_meet
        case rel => exact ⟨by rw [HE.out], rfl⟩
      have t1 : decide ((k : Int) < 1) = false := by rw [decide_eq_false_iff_not]; omega
      by_cases z2 : 8 < k
      · have t2 : decide ((8 : Int) < (k : Int)) = true := by rw [decide_eq_true_iff]; omega
        have HE := Lib.hid (H1.out.2 (.inr (.inl z2)))
        clear z1 z2
        go_wp2
        go_meet
        case rel => exact ⟨by rw [HE.out], rfl⟩
      have t2 : decide ((8 : Int) < (k : Int)) = false := by rw [decide_eq_false_iff_not]; omega
      by_cases z3 : 64 < nt
      · have t3 : decide ((64 : Int) < (nt : Int)) = true := by rw [decide_eq_true_iff]; omega
        have HE := Lib.hid (H1.out.2 (.inr (.inr (.inl z3))))
        clear z1 z2 z3
        go_wp2
        go_meet
        case rel => exact ⟨by rw [HE.out], rfl⟩
      have t3 : decide ((64 : Int) < (nt : Int)) = false := by rw [decide_eq_false_iff_not]; omega
      by_cases z4 : 64 < np
      · have t4 : decide ((64 : Int) < (np : Int)) = true := by rw [decide_eq_true_iff]; omega
        have HE := Lib.hid (H1.out.2 (.inr (.inr (.inr (.inl z4)))))
        clear z1 z2 z3 z4
        go_wp2
        go_meet
        case rel => exact ⟨by rw [HE.out], rfl⟩
      have t4 : decide ((64 : Int) < (np : Int)) = false := by rw [decide_eq_false_iff_not]; omega
      by_cases z5 : 64 < nb
      · have t5 : decide ((64 : Int) < (nb : Int)) = true := by rw [decide_eq_true_iff]; omega
        have HE := Lib.hid (H1.out.2 (.inr (.inr (.inr (.inr (.inl z5))))))
        clear z1 z2 z3 z4 z5
        go_wp2
        go_meet
        case rel => exact ⟨by rw [HE.out], rfl⟩
      have t5 : decide ((64 : Int) < (nb : Int)) = false := by rw [decide_eq_false_iff_not]; omega
      by_cases z6 : 64 < na
      · have t6 : decide ((64 : Int) < (na : Int)) = true := by rw [decide_eq_true_iff]; omega
        have HE := Lib.hid (H1.out.2 (.inr (.inr (.inr (.inr (.inr z6))))))
        clear z1 z2 z3 z4 z5 z6
        go_wp2
        go_meet
        case rel => exact ⟨by rw [HE.out], rfl⟩
      have t6 : decide ((64 : Int) < (na : Int)) = false := by rw [decide_eq_false_iff_not]; omega
      have HE : Hid (b1 = false) := Lib.hid (by
        rw [← Bool.not_eq_true, H1.out]
        unfold bad1
        omega)
      clear z1 z2 z3 z4 z5 z6
      go_wp2
      go_meet
      case rel => exact ⟨by rw [HE.out], rfl⟩
    case rest =>
      obtain ⟨rfl, rfl⟩ := hcut
      cases b1
      rotate_left
      · have F := Lib.hid (NO.out _ HB.out (.inl rfl))
        clear NO
        go_wp2
        go_ret
        exact F.out
      have hB1 : nt ≤ 64 ∧ np ≤ 64 ∧ k ≤ 8 := by
        have : ¬ bad1 k nt np nb na := fun q => by have := H1.out.2 q; cases this
        unfold bad1 at this
        omega
      go_upto_region 5 with fail
      generalize chgs k = ch at *
      go_cut [67] (fun v wx => v = .bool b2 ∧ w2 = wx)
      case first =>
        cases ch
        rotate_left
        · have HE : Hid (b2 = false) := Lib.hid (by
            rw [← Bool.not_eq_true, H2.out]
            rintro ⟨q, -⟩
            cases q)
          go_wp2
          go_meet
          case rel => exact ⟨by rw [HE.out], rfl⟩
        by_cases z1 : pg = 0
        rotate_left
        · have t1 : ((pg : Int) != 0) = true := by rw [bne_iff_ne]; omega
          have HE := Lib.hid (H2.out.2 ⟨rfl, .inl z1⟩)
          clear z1
          go_wp2
          go_meet
          case rel => exact ⟨by rw [HE.out], rfl⟩
        have t1 : ((pg : Int) != 0) = false := by rw [bne_eq_false_iff_eq]; omega
        by_cases z2 : sl = 0
        rotate_left
        · have t2 : ((sl : Int) != 0) = true := by rw [bne_iff_ne]; omega
          have HE := Lib.hid (H2.out.2 ⟨rfl, .inr (.inl z2)⟩)
          clear z1 z2
          go_wp2
          go_meet
          case rel => exact ⟨by rw [HE.out], rfl⟩
        have t2 : ((sl : Int) != 0) = false := by rw [bne_eq_false_iff_eq]; omega
        cases had
        rotate_left
        · have HE := Lib.hid (H2.out.2 ⟨rfl, .inr (.inr (.inl rfl))⟩)
          clear z1 z2
          go_wp2
          go_meet
          case rel => exact ⟨by rw [HE.out], rfl⟩
        cases has
        rotate_left
        · have HE := Lib.hid (H2.out.2 ⟨rfl, .inr (.inr (.inr rfl))⟩)
          clear z1 z2
          go_wp2
          go_meet
          case rel => exact ⟨by rw [HE.out], rfl⟩
        have HE : Hid (b2 = false) := Lib.hid (by
          rw [← Bool.not_eq_true, H2.out]
          rintro ⟨-, q | q | q | q⟩
          · exact q z1
          · exact q z2
          · cases q
          · cases q)
        clear z1 z2
        go_wp2
        go_meet
        case rel => exact ⟨by rw [HE.out], rfl⟩
      case rest =>
        obtain ⟨rfl, rfl⟩ := hcut
        cases b2
        rotate_left
        · have F := Lib.hid (NO.out _ HB.out (.inr (.inl rfl)))
          clear NO
          go_wp2
          go_ret
          exact F.out
        go_upto_region 7 with fail
        go_cut [87] (fun v wx => v = .bool b3 ∧ w2 = wx)
        case first =>
          cases had
          rotate_left
          · clear hB1
            cases has
            rotate_left
            · have HE : Hid (b3 = false) := Lib.hid (by
                rw [← Bool.not_eq_true, H3.out]
                rintro (⟨q, q'⟩ | ⟨q, q'⟩)
                · cases q
                · cases q)
              go_wp2
              go_meet
              case rel => exact ⟨by rw [HE.out], rfl⟩
            by_cases z2 : 0 < na
            · have t2 : decide ((0 : Int) < (na : Int)) = true := by rw [decide_eq_true_iff]; omega
              have u2 : decide (0 < na) = true := by rw [decide_eq_true_iff]; omega
              have HE := Lib.hid (H3.out.2 (.inr ⟨rfl, z2⟩))
              clear z2
              go_wp2
              go_meet
              case rel => exact ⟨by rw [HE.out], rfl⟩
            · have t2 : decide ((0 : Int) < (na : Int)) = false := by rw [decide_eq_false_iff_not]; omega
              have u2 : decide (0 < na) = false := by rw [decide_eq_false_iff_not]; omega
              have HE : Hid (b3 = false) := Lib.hid (by
                rw [← Bool.not_eq_true, H3.out]
                rintro (⟨q, q'⟩ | ⟨q, q'⟩)
                · cases q
                · exact z2 q')
              clear z2
              go_wp2
              go_meet
              case rel => exact ⟨by rw [HE.out], rfl⟩
          by_cases z1 : 0 < nb
          · have t1 : decide ((0 : Int) < (nb : Int)) = true := by rw [decide_eq_true_iff]; omega
            have u1 : decide (0 < nb) = true := by rw [decide_eq_true_iff]; omega
            have HE := Lib.hid (H3.out.2 (.inl ⟨rfl, z1⟩))
            clear z1
            go_wp2
            go_meet
            case rel => exact ⟨by rw [HE.out], rfl⟩
          have t1 : decide ((0 : Int) < (nb : Int)) = false := by rw [decide_eq_false_iff_not]; omega
          have u1 : decide (0 < nb) = false := by rw [decide_eq_false_iff_not]; omega
          have Z1 := Lib.hid z1
          clear z1
          cases has
          rotate_left
          · have HE : Hid (b3 = false) := Lib.hid (by
              rw [← Bool.not_eq_true, H3.out]
              rintro (⟨q, q'⟩ | ⟨q, q'⟩)
              · exact Z1.out q'
              · cases q)
            go_wp2
            go_meet
            case rel => exact ⟨by rw [HE.out], rfl⟩
          by_cases z2 : 0 < na
          · have t2 : decide ((0 : Int) < (na : Int)) = true := by rw [decide_eq_true_iff]; omega
            have u2 : decide (0 < na) = true := by rw [decide_eq_true_iff]; omega
            have HE := Lib.hid (H3.out.2 (.inr ⟨rfl, z2⟩))
            clear z2
            go_wp2
            go_meet
            case rel => exact ⟨by rw [HE.out], rfl⟩
          · have t2 : decide ((0 : Int) < (na : Int)) = false := by rw [decide_eq_false_iff_not]; omega
            have u2 : decide (0 < na) = false := by rw [decide_eq_false_iff_not]; omega
            have HE : Hid (b3 = false) := Lib.hid (by
              rw [← Bool.not_eq_true, H3.out]
              rintro (⟨q, q'⟩ | ⟨q, q'⟩)
              · exact Z1.out q'
              · exact z2 q')
            clear z2
            go_wp2
            go_meet
            case rel => exact ⟨by rw [HE.out], rfl⟩
        case rest =>
          obtain ⟨rfl, rfl⟩ := hcut
          cases b3
          rotate_left
          · have F := Lib.hid (NO.out _ HB.out (.inr (.inr (.inl rfl))))
            clear NO
            go_wp2
            go_ret
            exact F.out
          go_upto_region 9 with fail
          go_cut [100] (fun v wx => v = .bool b4 ∧ w2 = wx)
          case first =>
            have v1 : IntKind.i64.wrap ((nt : Int) + (np : Int)) = (nt : Int) + (np : Int) := by rw [IntKind.wrap_i64]; omega
            clear hB1
            by_cases z1 : k = 8
            · have t1 : ((k : Int) != 8) = false := by rw [bne_eq_false_iff_eq]; omega
              have HE : Hid (b4 = false) := Lib.hid (by
                rw [← Bool.not_eq_true, H4.out]
                rintro ⟨q, -⟩
                exact q z1)
              clear z1
              go_wp2
              go_meet
              case rel => exact ⟨by rw [HE.out], rfl⟩
            have t1 : ((k : Int) != 8) = true := by rw [bne_iff_ne]; omega
            by_cases z2 : 0 < nt + np
            · have t2 : decide ((0 : Int) < (nt : Int) + (np : Int)) = true := by rw [decide_eq_true_iff]; omega
              have u2 : decide (0 < nt + np) = true := by rw [decide_eq_true_iff]; omega
              have HE := Lib.hid (H4.out.2 ⟨z1, z2⟩)
              clear z1 z2
              go_wp2
              go_meet
              case rel => exact ⟨by rw [HE.out], rfl⟩
            · have t2 : decide ((0 : Int) < (nt : Int) + (np : Int)) = false := by rw [decide_eq_false_iff_not]; omega
              have u2 : decide (0 < nt + np) = false := by rw [decide_eq_false_iff_not]; omega
              have HE : Hid (b4 = false) := Lib.hid (by
                rw [← Bool.not_eq_true, H4.out]
                rintro ⟨-, q⟩
                exact z2 q)
              clear z1 z2
              go_wp2
              go_meet
              case rel => exact ⟨by rw [HE.out], rfl⟩
          case rest =>
            obtain ⟨rfl, rfl⟩ := hcut
            cases b4
            rotate_left
            · have F := Lib.hid (NO.out _ HB.out (.inr (.inr (.inr (.inl rfl)))))
              clear NO
              go_wp2
              go_ret
              exact F.out
            go_wp2_with fail
            go_loopw [5] (fun iv wr => ∃ j : Nat, j ≤ nt ∧ iv = .int .i64 j ∧ w2 = wr ∧ ∀ i x, i < j → r.txns[i]? = some x → badT x = false) (fun iv _ => nt - (intOf iv).toNat)
            case atStart => exact ⟨0, Nat.zero_le _, rfl, rfl, fun i x h => absurd h (by omega)⟩
            case round =>
              obtain ⟨j, hjn, rfl, rfl, hall⟩ := hrel
              have HALL := Lib.hid hall
              clear hall
              rcases Nat.lt_or_ge j nt with hlt | hge
              · have e1 : decide ((j : Int) < (nt : Int)) = true := by rw [decide_eq_true_iff]; omega
                have e2 : (0 : Int) ≤ (j : Int) := by omega
                have e3 : (j : Int) < (nt : Int) := by omega
                have k1 : j < r.txns.length := by rw [HNT.out]; exact hlt
                obtain ⟨bb, oo, hA, hbb, -, -, -, d3⟩ := hT3.out j k1
                have hg := List.getElem?_eq_getElem k1
                rw [hA] at q10
                generalize r.txns[j] = x at *
                have HG := Lib.hid hg
                generalize hst : x.state = sv at *
                have HST := Lib.hid hst
                clear hst hg hA k1
                by_cases z1 : sv < 1
                · have t1 : decide ((sv : Int) < 1) = true := by rw [decide_eq_true_iff]; omega
                  have F := Lib.hid (NO.out _ HB.out (.inr (.inr (.inr (.inr (by
                    rw [← Bool.not_eq_false, HAG.out]
                    intro q
                    have := q _ _ HG.out
                    unfold badT at this
                    rw [HST.out, decide_eq_true z1] at this
                    cases this))))))
                  clear NO z1
                  go_wp2
                  go_ret
                  exact F.out
                have t1 : decide ((sv : Int) < 1) = false := by rw [decide_eq_false_iff_not]; omega
                by_cases z2 : 3 < sv
                · have t2 : decide ((3 : Int) < (sv : Int)) = true := by rw [decide_eq_true_iff]; omega
                  have F := Lib.hid (NO.out _ HB.out (.inr (.inr (.inr (.inr (by
                    rw [← Bool.not_eq_false, HAG.out]
                    intro q
                    have := q _ _ HG.out
                    unfold badT at this
                    rw [HST.out, decide_eq_true z2, Bool.or_true] at this
                    cases this))))))
                  clear NO z1 z2
                  go_wp2
                  go_ret
                  exact F.out
                have t2 : decide ((3 : Int) < (sv : Int)) = false := by rw [decide_eq_false_iff_not]; omega
                have hbt : Hid (badT x = false) := Lib.hid (by
                  unfold badT
                  rw [HST.out, decide_eq_false z1, decide_eq_false z2]
                  rfl)
                clear z1 z2
                go_wp2
                go_roundw
                case rel => exact ⟨j + 1, by omega, by go_num, (by trivial), fun i x' hi hx => by
                  rcases Nat.lt_or_ge i j with q | q
                  · exact HALL.out i x' q hx
                  · obtain rfl : i = j := by omega
                    rw [HG.out] at hx
                    rw [← Option.some.inj hx]
                    exact hbt.out⟩
                case measure => simp [intOf]; omega
              · obtain rfl : j = nt := by omega
                have e1 : decide ((j : Int) < (j : Int)) = false := by rw [decide_eq_false_iff_not]; omega
                have F : Hid (RmPost r w (.returned (.bool true)) w2) := Lib.hid ⟨by
                  have : okR r = true := by
                    rw [HOK.out]
                    refine ⟨by decide, by decide, by decide, by decide, HAG.out.2 fun i x hx => HALL.out i x ?_ hx⟩
                    have := (List.getElem?_eq_some_iff.1 hx).1
                    rw [HNT.out] at this
                    exact this
                  rw [this], HB.out⟩
                clear NO hge hjn
                go_wp2
                go_ret
                exact F.out
end Go.Proofs.Ythbaoljghofkoaa
