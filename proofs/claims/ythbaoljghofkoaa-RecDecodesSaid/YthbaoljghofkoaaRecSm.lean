/- rec's document: Same. Conditions: the records lie there. -/
import Derived.Test.YthbaoljghofkoaaRecEq
import Derived.StillTailTactics
namespace Go.Proofs.Ythbaoljghofkoaa
open Go.ChangeShapes Go.WideShapes Go.ChangeAt Go.RowKit
open NumMath
set_option linter.unusedVariables false
set_option linter.unusedSimpArgs false
set_option maxRecDepth 20000

def SamePost (r s : RecP) (w : World) (e : Ending) (w' : World) : Prop := (∃ b, e = .returned (.bool b) ∧ (b = true ↔ r = s)) ∧ Below w.heap.size w w'
theorem bne_nat (a b : Nat) : ∃ x : Bool, ((a : Int) != (b : Int)) = x ∧ (x = false ↔ a = b) := ⟨_, rfl, by
  rw [bne_eq_false_iff_eq]
  omega⟩
theorem tx_ext (x y : TxP) : (x.txn = y.txn ∧ x.last = y.last ∧ x.undo = y.undo ∧ x.state = y.state) ↔ x = y := by
  obtain ⟨a1, a2, a3, a4⟩ := x
  obtain ⟨b1, b2, b3, b4⟩ := y
  simp
theorem dir_ext (x y : DirP) : (x.page = y.page ∧ x.first = y.first) ↔ x = y := by
  obtain ⟨a1, a2⟩ := x
  obtain ⟨b1, b2⟩ := y
  simp
theorem rec_ext (r s : RecP) (e1 : r.kind = s.kind) (e2 : r.txn = s.txn) (e3 : r.prev = s.prev) (e4 : r.next = s.next) (e6 : r.txns = s.txns) (e7 : r.pages = s.pages) : sameC r.chg s.chg = true ↔ r = s := by
  rw [sameC_iff]
  constructor
  · intro e5
    obtain ⟨a1, a2, a3, a4, a5, a6, a7⟩ := r
    obtain ⟨b1, b2, b3, b4, b5, b6, b7⟩ := s
    dsimp only at e1 e2 e3 e4 e5 e6 e7
    subst e1 e2 e3 e4 e5 e6 e7
    rfl
  · intro h
    rw [h]
set_option maxHeartbeats 16000000 in
theorem same_rec (r s : RecP) (m k : RecMm) (B : Nat) (w : World) (h : RecAt w B r m) (h' : RecAt w B s k) (hB : B ≤ w.heap.size) (hl1 : r.txns.length ≤ 100000) (hl2 : r.pages.length ≤ 100000) :
    Calls Try.prog 15 #[.agg (recA r m), .agg (recA s k)] w (SamePost r s w) := by
  have kr := (Blk.new w 31 (recA r m)).alloc (.cells (recA s k) 31)
  have ks := Blk.new (w.alloc (.cells (recA r m) 31)) 31 (recA s k)
  have b1 := below_alloc w (.cells (recA r m) 31)
  have b2 := b1.alloc b1.size (.cells (recA s k) 31)
  rw [World.size_alloc] at ks
  go_enter Try.func15, Try.ntmps15
  go_upto_region 1 with fail
  have hR := h.below (b2.mono hB)
  have hS := h'.below (b2.mono hB)
  generalize World.alloc (World.alloc w _) _ = w1 at *
  have hgr := kr.lt
  have hgs := ks.lt
  generalize w.heap.size + 1 = g2 at *
  have HKR := Lib.hid kr
  have HKS := Lib.hid ks
  have HB2 := Lib.hid b2
  have hBw : B ≤ w1.heap.size := Nat.le_trans hB b2.size
  have FIN : Hid (∀ W x, Below w1.heap.size w1 W → (x = true ↔ r = s) → SamePost r s w (.returned (.bool x)) W) := Lib.hid fun W x a b => ⟨⟨x, rfl, b⟩, HB2.out.trans (a.mono HB2.out.size)⟩
  obtain ⟨x1, t1, i1⟩ := bne_nat r.kind s.kind
  obtain ⟨x2, t2, i2⟩ := bne_nat r.txn s.txn
  obtain ⟨x3, t3, i3⟩ := bne_nat r.prev s.prev
  obtain ⟨x4, t4, i4⟩ := bne_nat r.next s.next
  obtain ⟨x5, t5, i5⟩ := bne_nat r.txns.length s.txns.length
  obtain ⟨x6, t6, i6⟩ := bne_nat r.pages.length s.pages.length
  have I1 := Lib.hid i1
  have I2 := Lib.hid i2
  have I3 := Lib.hid i3
  have I4 := Lib.hid i4
  have I5 := Lib.hid i5
  have I6 := Lib.hid i6
  have p0 : w1.cell? ⟨w.heap.size, 0, none⟩ = some (.int .u8 (r.kind : Nat)) := kr.cell 0
  have p1 : w1.cell? ⟨w.heap.size, 1, none⟩ = some (.int .u32 (r.txn : Nat)) := kr.cell 1
  have p2 : w1.cell? ⟨w.heap.size, 2, none⟩ = some (.int .u64 (r.prev : Nat)) := kr.cell 2
  have p3 : w1.cell? ⟨w.heap.size, 3, none⟩ = some (.int .u64 (r.next : Nat)) := kr.cell 3
  have p10 : w1.cell? ⟨w.heap.size, 10, none⟩ = some (.slice m.A3 r.txns.length m.c3) := kr.cell 10
  have p11 : w1.cell? ⟨w.heap.size, 11, none⟩ = some (.slice m.A4 r.pages.length m.c4) := kr.cell 11
  have q0 : w1.cell? ⟨g2, 0, none⟩ = some (.int .u8 (s.kind : Nat)) := ks.cell 0
  have q1 : w1.cell? ⟨g2, 1, none⟩ = some (.int .u32 (s.txn : Nat)) := ks.cell 1
  have q2 : w1.cell? ⟨g2, 2, none⟩ = some (.int .u64 (s.prev : Nat)) := ks.cell 2
  have q3 : w1.cell? ⟨g2, 3, none⟩ = some (.int .u64 (s.next : Nat)) := ks.cell 3
  have q10 : w1.cell? ⟨g2, 10, none⟩ = some (.slice k.A3 s.txns.length k.c3) := ks.cell 10
  have q11 : w1.cell? ⟨g2, 11, none⟩ = some (.slice k.A4 s.pages.length k.c4) := ks.cell 11
  clear kr ks b1 b2 h h' i1 i2 i3 i4 i5 i6
  have NO : Hid (∀ W, Below w1.heap.size w1 W → r ≠ s → SamePost r s w (.returned (.bool false)) W) := Lib.hid fun W a b => FIN.out W false a ⟨(fun e => by cases e), fun e => absurd e b⟩
  cases x1
  rotate_left
  · have F := Lib.hid (NO.out w1 (Below.refl _ _) fun e => by have := I1.out.2 (by rw [e]); cases this)
    clear NO
    go_wp2
    go_ret
    exact F.out
  cases x2
  rotate_left
  · have F := Lib.hid (NO.out w1 (Below.refl _ _) fun e => by have := I2.out.2 (by rw [e]); cases this)
    clear NO
    go_wp2
    go_ret
    exact F.out
  cases x3
  rotate_left
  · have F := Lib.hid (NO.out w1 (Below.refl _ _) fun e => by have := I3.out.2 (by rw [e]); cases this)
    clear NO
    go_wp2
    go_ret
    exact F.out
  cases x4
  rotate_left
  · have F := Lib.hid (NO.out w1 (Below.refl _ _) fun e => by have := I4.out.2 (by rw [e]); cases this)
    clear NO
    go_wp2
    go_ret
    exact F.out
  cases x5
  rotate_left
  · have F := Lib.hid (NO.out w1 (Below.refl _ _) fun e => by have := I5.out.2 (by rw [e]); cases this)
    clear NO
    go_wp2
    go_ret
    exact F.out
  cases x6
  rotate_left
  · have F := Lib.hid (NO.out w1 (Below.refl _ _) fun e => by have := I6.out.2 (by rw [e]); cases this)
    clear NO
    go_wp2
    go_ret
    exact F.out
  have n1 := I5.out.1 rfl
  have n2 := I6.out.1 rfl
  obtain ⟨a, ha⟩ : ∃ a, r.txns.length = a := ⟨_, rfl⟩
  obtain ⟨b, hb⟩ : ∃ b, r.pages.length = b := ⟨_, rfl⟩
  have HA := Lib.hid (And.intro ha (n1 ▸ ha : s.txns.length = a))
  have HB := Lib.hid (And.intro hb (n2 ▸ hb : s.pages.length = b))
  have hr10 : Hid (∀ W, Below w1.heap.size w1 W → W.cell? ⟨w.heap.size, 10, none⟩ = some (.slice m.A3 a m.c3) ∧ W.cell? ⟨g2, 10, none⟩ = some (.slice k.A3 a k.c3) ∧ W.cell? ⟨w.heap.size, 11, none⟩ = some (.slice m.A4 b m.c4) ∧ W.cell? ⟨g2, 11, none⟩ = some (.slice k.A4 b k.c4)) := Lib.hid fun W hW => by
    have e1 : W.cell? ⟨w.heap.size, 10, none⟩ = some (.slice m.A3 r.txns.length m.c3) := (HKR.out.below hW hgr).cell 10
    have e2 : W.cell? ⟨g2, 10, none⟩ = some (.slice k.A3 s.txns.length k.c3) := (HKS.out.below hW hgs).cell 10
    have e3 : W.cell? ⟨w.heap.size, 11, none⟩ = some (.slice m.A4 r.pages.length m.c4) := (HKR.out.below hW hgr).cell 11
    have e4 : W.cell? ⟨g2, 11, none⟩ = some (.slice k.A4 s.pages.length k.c4) := (HKS.out.below hW hgs).cell 11
    rw [HA.out.1] at e1
    rw [HA.out.2] at e2
    rw [HB.out.1] at e3
    rw [HB.out.2] at e4
    exact ⟨e1, e2, e3, e4⟩
  rw [ha] at hl1
  rw [hb] at hl2
  clear n1 n2 ha hb
  have HR := Lib.hid hR
  have HS := Lib.hid hS
  go_wp2_with fail
  clear p0 p1 p2 p3 p10 p11 q0 q1 q2 q3 q10 q11 hR hS I5 I6
  go_loopw [5] (fun iv wr => ∃ j : Nat, j ≤ a ∧ iv = .int .i64 j ∧ Below w1.heap.size w1 wr ∧ ∀ i < j, r.txns[i]? = s.txns[i]?) (fun iv _ => a - (intOf iv).toNat)
  case atStart => exact ⟨0, Nat.zero_le _, rfl, Below.refl _ _, fun i h => absurd h (by omega)⟩
  case round =>
    obtain ⟨j, hja, rfl, hbw, hall⟩ := hrel
    obtain ⟨p10, q10, p11, q11⟩ := hr10.out wr hbw
    rcases Nat.lt_or_ge j a with hlt | hge
    · have e1 : decide ((j : Int) < (a : Int)) = true := by rw [decide_eq_true_iff]; omega
      have e2 : (0 : Int) ≤ (j : Int) := by omega
      have e3 : (j : Int) < (a : Int) := by omega
      have k1 : j < r.txns.length := by rw [HA.out.1]; exact hlt
      have k2 : j < s.txns.length := by rw [HA.out.2]; exact hlt
      obtain ⟨b1, o1, hA1, hb1, c0, c1, c2, c3⟩ := (HR.out.txs.below (hbw.mono hBw)) j k1
      obtain ⟨b2, o2, hA2, hb2, d0, d1, d2, d3⟩ := (HS.out.txs.below (hbw.mono hBw)) j k2
      have hg1 : r.txns[j]? = some r.txns[j] := List.getElem?_eq_getElem k1
      have hg2 : s.txns[j]? = some s.txns[j] := List.getElem?_eq_getElem k2
      generalize r.txns[j] = x at *
      generalize s.txns[j] = y at *
      have hq : ∀ W, (binOp .neq 64 (.agg (txV x)) (.agg (txV y))).run Try.prog W = .ok (.bool (!decide (x.txn = y.txn ∧ x.last = y.last ∧ x.undo = y.undo ∧ x.state = y.state))) W := fun W => tx_neq W x y
      obtain ⟨z, hz⟩ : ∃ z, decide (x.txn = y.txn ∧ x.last = y.last ∧ x.undo = y.undo ∧ x.state = y.state) = z := ⟨_, rfl⟩
      have hzz : z = true ↔ x = y := by rw [← hz, decide_eq_true_iff]; exact tx_ext x y
      rw [hz] at hq
      have ld1 := load_tx (w := wr.drew) c0 c1 c2 c3
      have ld2 := load_tx (w := wr.drew) d0 d1 d2 d3
      have D : Hid ((wr.drew).heap = wr.heap) := Lib.hid rfl
      have HH := Lib.hid (And.intro hall (And.intro hg1 (And.intro hg2 hzz)))
      clear hall hg1 hg2 hzz hz c0 c1 c2 c3 d0 d1 d2 d3
      rw [hA1] at p10
      rw [hA2] at q10
      clear hA1 hA2
      go_upto_region 6 with fail
      go_still_tail 10, (by kernel_rfl)
      refine wpStill_load_run rfl 64 (.tmp 61) _ _ rfl rfl ld1 ?_
      repeat still_step
      refine wpStill_load_run rfl 64 (.tmp 66) _ _ rfl rfl ld2 ?_
      refine wpStill_nil ?_
      change wpList _ _ _ _ _ wr.drew
      clear ld1 ld2
      have DB : Below wr.heap.size wr wr.drew := below_drew0 wr
      have HW := Lib.hid (hbw.trans (DB.mono hbw.size))
      clear DB hbw p10 q10 p11 q11
      cases z
      · have F := Lib.hid (NO.out _ HW.out fun e => by
          obtain ⟨-, g1, g2, g3⟩ := HH.out
          subst e
          rw [g1] at g2
          cases g3.2 (Option.some.inj g2))
        clear NO HH
        go_wp2
        go_ret
        exact F.out
      · go_wp2
        go_roundw
        case rel => exact ⟨j + 1, by omega, by go_num, HW.out, fun i hi => by
          obtain ⟨g0, g1, g2, g3⟩ := HH.out
          rcases Nat.lt_or_ge i j with q | q
          · exact g0 i q
          · obtain rfl : i = j := by omega
            rw [g1, g2, g3.1 rfl]⟩
        case measure => simp [intOf]; omega
    · obtain rfl : j = a := by omega
      have e1 : decide ((j : Int) < (j : Int)) = false := by rw [decide_eq_false_iff_not]; omega
      have HT : Hid (r.txns = s.txns) := Lib.hid (List.ext_getElem? fun i => by
        rcases Nat.lt_or_ge i j with q | q
        · exact hall i q
        · rw [List.getElem?_eq_none (by rw [HA.out.1]; exact q), List.getElem?_eq_none (by rw [HA.out.2]; exact q)])
      have HW := Lib.hid hbw
      clear hall hja hge p11 q11
      go_wp2_with fail
      clear p10 q10
      go_loopw [6] (fun iv w' => ∃ i : Nat, i ≤ b ∧ iv = .int .i64 i ∧ Below w1.heap.size w1 w' ∧ ∀ n < i, r.pages[n]? = s.pages[n]?) (fun iv _ => b - (intOf iv).toNat)
      case atStart => exact ⟨0, Nat.zero_le _, rfl, hbw, fun i h => absurd h (by omega)⟩
      case round =>
        clear hbw HW
        obtain ⟨i, hib, rfl, hbw, hall⟩ := hrel
        rename World => wq
        obtain ⟨p10, q10, p11, q11⟩ := hr10.out wq hbw
        rcases Nat.lt_or_ge i b with hlt | hge
        · have e1 : decide ((i : Int) < (b : Int)) = true := by rw [decide_eq_true_iff]; omega
          have e2 : (0 : Int) ≤ (i : Int) := by omega
          have e3 : (i : Int) < (b : Int) := by omega
          have k1 : i < r.pages.length := by rw [HB.out.1]; exact hlt
          have k2 : i < s.pages.length := by rw [HB.out.2]; exact hlt
          obtain ⟨b1, o1, hA1, hb1, c0, c1⟩ := (HR.out.dirs.below (hbw.mono hBw)) i k1
          obtain ⟨b2, o2, hA2, hb2, d0, d1⟩ := (HS.out.dirs.below (hbw.mono hBw)) i k2
          have hg1 : r.pages[i]? = some r.pages[i] := List.getElem?_eq_getElem k1
          have hg2 : s.pages[i]? = some s.pages[i] := List.getElem?_eq_getElem k2
          generalize r.pages[i] = x at *
          generalize s.pages[i] = y at *
          have hq : ∀ W, (binOp .neq 66 (.agg (dirV x)) (.agg (dirV y))).run Try.prog W = .ok (.bool (!decide (x.page = y.page ∧ x.first = y.first))) W := fun W => dir_neq W x y
          obtain ⟨z, hz⟩ : ∃ z, decide (x.page = y.page ∧ x.first = y.first) = z := ⟨_, rfl⟩
          have hzz : z = true ↔ x = y := by rw [← hz, decide_eq_true_iff]; exact dir_ext x y
          rw [hz] at hq
          have ld1 := load_dir (w := wq.drew) c0 c1
          have ld2 := load_dir (w := wq.drew) d0 d1
          have HH := Lib.hid (And.intro hall (And.intro hg1 (And.intro hg2 hzz)))
          clear hall hg1 hg2 hzz hz c0 c1 d0 d1 p10 q10
          rw [hA1] at p11
          rw [hA2] at q11
          clear hA1 hA2
          go_upto_region 11 with fail
          go_still_tail 10, (by kernel_rfl)
          refine wpStill_load_run rfl 66 (.tmp 79) _ _ rfl rfl ld1 ?_
          repeat still_step
          refine wpStill_load_run rfl 66 (.tmp 84) _ _ rfl rfl ld2 ?_
          refine wpStill_nil ?_
          change wpList _ _ _ _ _ wq.drew
          clear ld1 ld2
          have DB : Below wq.heap.size wq wq.drew := below_drew0 wq
          have HW := Lib.hid (hbw.trans (DB.mono hbw.size))
          clear DB hbw p11 q11
          cases z
          · have F := Lib.hid (NO.out _ HW.out fun e => by
              obtain ⟨-, g1, g2, g3⟩ := HH.out
              subst e
              rw [g1] at g2
              cases g3.2 (Option.some.inj g2))
            clear NO HH
            go_wp2
            go_ret
            exact F.out
          · go_wp2
            go_roundw
            case rel => exact ⟨i + 1, by omega, by go_num, HW.out, fun n hi => by
              obtain ⟨g0, g1, g2, g3⟩ := HH.out
              rcases Nat.lt_or_ge n i with q | q
              · exact g0 n q
              · obtain rfl : n = i := by omega
                rw [g1, g2, g3.1 rfl]⟩
            case measure => simp [intOf]; omega
        · obtain rfl : i = b := by omega
          have e1 : decide ((i : Int) < (i : Int)) = false := by rw [decide_eq_false_iff_not]; omega
          have HP : Hid (r.pages = s.pages) := Lib.hid (List.ext_getElem? fun n => by
            rcases Nat.lt_or_ge n i with q | q
            · exact hall n q
            · rw [List.getElem?_eq_none (by rw [HB.out.1]; exact q), List.getElem?_eq_none (by rw [HB.out.2]; exact q)])
          have HW := Lib.hid hbw
          have ld1 := load_chg (HKR.out.below hbw hgr)
          have ld2 := load_chg (HKS.out.below hbw hgs)
          have cc := sameChange_any r.chg s.chg m.cm k.cm B wq (HR.out.chg.below (hbw.mono hBw)) (HS.out.chg.below (hbw.mono hBw)) (Nat.le_trans hBw hbw.size)
          have HE : Hid (sameC r.chg s.chg = true ↔ r = s) := Lib.hid (rec_ext r s (I1.out.1 (by trivial)) (I2.out.1 (by trivial)) (I3.out.1 (by trivial)) (I4.out.1 (by trivial)) HT.out HP.out)
          generalize sameC r.chg s.chg = z at *
          clear hall hbw hib hge p10 q10 I1 I2 I3 I4
          go_wp2_with (first | (refine wpList_load_run rfl 27 (.tmp 87) _ _ rfl rfl ld1 ?_; clear ld1) | (refine wpList_load_run rfl 27 (.tmp 89) _ _ rfl rfl ld2 ?_; clear ld2))
          refine cc.mono ?_
          rintro e w3 ⟨rfl, b3⟩
          have F := Lib.hid (FIN.out w3 z (HW.out.trans (b3.mono HW.out.size)) HE.out)
          clear cc b3 HE FIN NO HW
          go_wp2
          go_ret
          exact F.out
end Go.Proofs.Ythbaoljghofkoaa
