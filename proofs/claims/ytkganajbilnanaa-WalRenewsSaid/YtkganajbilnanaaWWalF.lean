/- wal: find. Conditions: the log lies there, just made; the device has two sectors or more. -/
import Derived.Test.YtkganajbilnanaaWWalY
import Derived.Test.YtkganajbilnanaaWWalH
import Derived.Test.YtkganajbilnanaaWRecD
import Derived.Deep.QuietTactic
import Derived.BigQuiet
namespace Go.Proofs.Ytkganajbilnanaa
open Go.ChangeShapes Go.WideShapes Go.ChangeAt Go.RowKit
open NumMath
set_option linter.unusedVariables false
set_option linter.unusedSimpArgs false
set_option maxRecDepth 20000

theorem bel_drewN {B : Nat} {a w : World} (h : Below B a w) (n : Nat) : Below B a (w.drewN n) := ⟨h.os, h.tape, h.output, h.size, h.block⟩
def findK (D : DevP) : Nat → HeadP × Nat
  | 0 => (⟨0, 0, 0, 0⟩, 0)
  | k + 1 => findStep D k (findK D k)
theorem findK_two (D : DevP) : findK D 2 = findP D := rfl
theorem DevP.read_in {D : DevP} {k : Nat} (hk : k < (D.f 0).length) : D.read 0 (k : Int) = ((D.sect 0 k).newest, 0) := by
  unfold DevP.read
  rw [if_pos ⟨by omega, by omega, by omega⟩, Int.toNat_natCast]
theorem DevP.newest_len {D : DevP} {N : Nat} (h : D.good N) {k : Nat} (hk : k < (D.f 0).length) : (D.sect 0 k).newest.length = 128 := by
  obtain ⟨h1, -, h3⟩ := h.at_ (n := 0) (by omega) hk
  rw [DevP.sect_eq hk]
  exact newest_128 h1 h3
theorem store_head_log {w : World} {gl : Nat} {cs : Array Value} (k : Blk w gl 75 cs) (hs : cs.size = 10) (x : HeadP) : (Instr.storeAt 72 (.pointer (some ⟨gl, 0, none⟩)) (.agg (headV x))).run Try.prog w = .ok () (w.setCells gl 0 (headV x).toList) :=
  run_storeAt_mid w gl 0 72 (headV x) (fun j hj => ⟨by rw [k.cell, Array.getElem?_eq_getElem (by rw [hs]; have : (headV x).size = 4 := rfl; omega)]; rfl, k.frozen _⟩) size_head (by simp [headV, Value.oneCell'])
set_option maxHeartbeats 8000000 in
theorem find_any {strips : Nat} {D : DevP} {w : World} {F G : Nat → Prop} {gl : Nat} {pd sv st : Value} (h : Lg (logZ strips) D w F G gl pd sv st) {N : Nat} (hG : D.good N) (hN : N ≤ 100000) (h2 : 2 ≤ (D.f 0).length) :
    Calls Try.prog 37 #[.pointer (some ⟨gl, 0, none⟩)] w fun e w' => e = .returned (.bool (decide (0 < (findP D).1.stamp))) ∧ Lg ⟨(findP D).1, strips, (findP D).2, [], [], 0⟩ D w' F G gl pd sv st ∧ Only (fun b => b = gl) w w' := by
  obtain ⟨gp, s0, lv0, X0, rfl, -⟩ := id h.dev
  obtain ⟨⟨hz, slz⟩, hfp⟩ : ∃ fp, findP D = fp := ⟨_, rfl⟩
  rw [hfp]
  have HFP := Lib.hid hfp
  clear hfp
  go_enter Try.func37, Try.ntmps37
  go_wp2_with fail
  go_loopw [8] (fun iv wr => ∃ (k : Nat), k ≤ 2 ∧ iv = .int .i64 (k : Nat) ∧ Lg ⟨(findK D k).1, strips, (findK D k).2, [], [], 0⟩ D wr F G gl (.pointer (some ⟨gp, 0, none⟩)) sv st ∧ Only (fun b => b = gl) w wr) (fun iv _ => 2 - (intOf iv).toNat)
  case atStart => exact ⟨0, by omega, rfl, h, Only.refl _ _⟩
  case round =>
    clear h
    obtain ⟨k, hk, rfl, hd, hO⟩ := hrel
    rcases Nat.lt_or_ge k 2 with hlt | hge
    · have e1 : decide ((k : Int) < 2) = true := by rw [decide_eq_true_iff]; omega
      have hkl : k < (D.f 0).length := by omega
      have hrd := read_any hd.dev hG hN 0 (by omega) (k : Int)
      have hln := DevP.newest_len hG hkl
      have hstep : findK D (k + 1) = findStep D k (findK D k) := rfl
      unfold findStep at hstep
      rw [DevP.read_in hkl] at hrd hstep
      simp only at hrd hstep
      generalize (D.sect 0 k).newest = lr at *
      generalize hs : findK D k = s at *
      obtain ⟨hh, sl⟩ := s
      simp only at hd hstep
      have kb := hd.log.blk
      have c4 : wr.cell? ⟨gl, 4, none⟩ = some (.pointer (some ⟨gp, 0, none⟩)) := kb.cell 4
      have NXT : Hid (∀ W, Below wr.heap.size wr W → ¬ (isHead lr = true ∧ hh.stamp < (wheadP lr).stamp) → Lg ⟨(findK D (k + 1)).1, strips, (findK D (k + 1)).2, [], [], 0⟩ D W F G gl (.pointer (some ⟨gp, 0, none⟩)) sv st ∧ Only (fun b => b = gl) w W) := Lib.hid fun W hW hn => by
        rw [hstep, if_neg hn]
        exact ⟨hd.below hW, hO.trans (Only.of_below hW (fun _ => False)) fun b z => z.elim⟩
      have hw2 := hO.size
      have NXT2 : Hid (∀ W, Below wr.heap.size wr W → (isHead lr = true ∧ hh.stamp < (wheadP lr).stamp) → Blk W gl 75 (logV hh (.pointer (some ⟨gp, 0, none⟩)) strips sl sv st 0) ∧ (Instr.storeAt 72 (.pointer (some ⟨gl, 0, none⟩)) (.agg (headV (wheadP lr)))).run Try.prog W = .ok () (W.setCells gl 0 (headV (wheadP lr)).toList) ∧
          (W.setCells gl 0 (headV (wheadP lr)).toList).cell? ⟨gl, 6, none⟩ = some (.int .i64 (sl : Nat)) ∧ (W.setCells gl 0 (headV (wheadP lr)).toList).frozen? ⟨gl, 6, none⟩ = false ∧
          Lg ⟨(findK D (k + 1)).1, strips, (findK D (k + 1)).2, [], [], 0⟩ D ((W.setCells gl 0 (headV (wheadP lr)).toList).setCell ⟨gl, 6, none⟩ (.int .i64 (k : Nat))) F G gl (.pointer (some ⟨gp, 0, none⟩)) sv st ∧ Only (fun b => b = gl) w ((W.setCells gl 0 (headV (wheadP lr)).toList).setCell ⟨gl, 6, none⟩ (.int .i64 (k : Nat)))) := Lib.hid fun W hW hy => by
        have hd2 := hd.below hW
        have k2 := hd2.log.blk
        have k3 : Blk (W.setCells gl 0 (headV (wheadP lr)).toList) gl 75 (logV (wheadP lr) (.pointer (some ⟨gp, 0, none⟩)) strips sl sv st 0) := (((k2.set_ 0 _).set_ 1 _).set_ 2 _).set_ 3 _
        have o3 := setCells_only W gl (headV (wheadP lr)).toList 0
        have o4 : Only (fun b => b = gl) W ((W.setCells gl 0 (headV (wheadP lr)).toList).setCell ⟨gl, 6, none⟩ (.int .i64 (k : Nat))) := o3.setCell (p := ⟨gl, 6, none⟩) (.inl rfl) _
        have k4 : Blk ((W.setCells gl 0 (headV (wheadP lr)).toList).setCell ⟨gl, 6, none⟩ (.int .i64 (k : Nat))) gl 75 (logV (wheadP lr) (.pointer (some ⟨gp, 0, none⟩)) strips k sv st 0) := k3.set_ 6 _
        rw [hstep, if_pos hy]
        exact ⟨k2, store_head_log k2 rfl _, k3.cell 6, k3.frozen 6, hd2.box (L' := ⟨wheadP lr, strips, k, [], [], 0⟩) o4 k4 rfl rfl, (hO.trans (Only.of_below hW (fun _ => False)) fun b z => z.elim).trans o4 fun b z => .inl z⟩
      have HLN := Lib.hid hln
      clear hs hstep hd hO hln
      go_wp2_with fail
      refine hrd.mono ?_
      rintro e w2 ⟨A2, c2, rfl, ho2, hb2, hs2⟩
      rw [HLN.out] at ho2 ⊢
      have hhd := heads_any A2 c2 lr w2.heap.size w2 (own_bytes ho2 hs2) (Nat.le_refl _) HLN.out (own_cap ho2)
      have NX := Lib.hid fun W (hW : Below w2.heap.size w2 W) => NXT.out W (hb2.trans (hW.mono hb2.size))
      have NX2 := Lib.hid fun W (hW : Below w2.heap.size w2 W) => NXT2.out W (hb2.trans (hW.mono hb2.size))
      have KB : Hid (∀ W, Below w2.heap.size w2 W → Blk W gl 75 (logV hh (.pointer (some ⟨gp, 0, none⟩)) strips sl sv st 0)) := Lib.hid fun W hW => (kb.below hb2 kb.lt).below hW (Nat.lt_of_lt_of_le kb.lt hb2.size)
      clear hrd ho2 hs2 NXT NXT2 kb
      go_wp2_with fail
      refine hhd.mono ?_
      rintro e w3 ⟨rfl, hb3⟩
      have hst := store_head_new w3 (wheadP lr)
      have kx := Blk.new w3 72 (headV (wheadP lr))
      have hb4 : Below w2.heap.size w2 (w3.alloc (.cells (headV (wheadP lr)) 72)) := hb3.alloc hb3.size _
      go_upto_region 6 with (refine wpList_store_run rfl 72 (.tmp 6) (.tmp 23) _ _ rfl rfl rfl hst ?_; clear hst)
      obtain ⟨hp, hhp⟩ : ∃ hp, wheadP lr = hp := ⟨_, rfl⟩
      rw [hhp] at kx hb4 NX NX2
      rw [hhp]
      obtain ⟨ps, pb, pc, pa⟩ := hp
      have kl := KB.out _ hb4
      have hgx := kx.lt
      have hne : w3.heap.size ≠ gl := by
        have := (KB.out w2 (Below.refl _ _)).lt
        have := hb3.size
        omega
      generalize World.alloc w3 _ = w4 at *
      have c0 : w4.cell? ⟨gl, 0, none⟩ = some (.int .u64 (hh.stamp : Nat)) := kl.cell 0
      have x0 : w4.cell? ⟨w3.heap.size, 0, none⟩ = some (.int .u64 (ps : Nat)) := kx.cell 0
      clear KB kl
      cases hih : isHead lr with
      | false =>
        have H := Lib.hid fun n => NX.out _ (bel_drewN hb4 n) (by rw [hih]; simp)
        clear NX NX2 hb4 kx hb3 hih
        go_upto_region 6 with fail
        go_quiet (fail)
        go_wp2
        go_roundw
        case rel => exact ⟨k + 1, by omega, by go_num, (H.out _).1, (H.out _).2⟩
        case measure => simp [intOf]; omega
      | true =>
        obtain ⟨hs, hhs⟩ : ∃ x, hh.stamp = x := ⟨_, rfl⟩
        rw [hih, hhs] at NX NX2
        rw [hhs] at c0
        by_cases hlt2 : hs < ps
        · have t1 : decide ((hs : Int) < (ps : Int)) = true := by rw [decide_eq_true_iff]; omega
          have H := Lib.hid fun n => NX2.out _ (bel_drewN hb4 n) ⟨rfl, hlt2⟩
          have KX := Lib.hid fun n => Blk.drewN kx n
          clear NX NX2 hb4 hb3 hih hhs kx
          go_upto_region 6 with fail
          go_quiet (fail)
          rename Nat => nq
          have ld := load_head (KX.out nq)
          obtain ⟨-, st_, c6, z6, hl, ho⟩ := H.out nq
          have FIN := Lib.hid (And.intro hl ho)
          clear H KX hl ho
          generalize World.drewN w4 nq = w5 at *
          go_wp2_with (first
            | (refine wpList_load_run rfl 72 (.tmp 6) _ _ rfl rfl ld ?_; clear ld)
            | (refine wpList_store_run rfl 72 (.tmp 41) (.tmp 38) _ _ rfl rfl rfl st_ ?_; clear st_)
            | fail)
          go_roundw
          case rel => exact ⟨k + 1, by omega, by go_num, FIN.out.1, FIN.out.2⟩
          case measure => simp [intOf]; omega
        · have t1 : decide ((hs : Int) < (ps : Int)) = false := by rw [decide_eq_false_iff_not]; omega
          have H := Lib.hid fun n => NX.out _ (bel_drewN hb4 n) (fun q => hlt2 q.2)
          clear NX NX2 hb4 kx hb3 hih hhs
          go_upto_region 6 with fail
          go_quiet (fail)
          go_wp2
          go_roundw
          case rel => exact ⟨k + 1, by omega, by go_num, (H.out _).1, (H.out _).2⟩
          case measure => simp [intOf]; omega
    · obtain rfl : k = 2 := by omega
      have e1 : decide (((2 : Nat) : Int) < 2) = false := rfl
      rw [findK_two, HFP.out] at hd
      have c0 : wr.cell? ⟨gl, 0, none⟩ = some (.int .u64 (hz.stamp : Nat)) := hd.log.blk.cell 0
      have t0 : decide ((0 : Int) < (hz.stamp : Int)) = decide (0 < hz.stamp) := by rw [Bool.eq_iff_iff, decide_eq_true_iff, decide_eq_true_iff]; omega
      have H := Lib.hid (And.intro hd hO)
      obtain ⟨q, hq⟩ : ∃ q, hz.stamp = q := ⟨_, rfl⟩
      rw [hq] at c0
      have Q := Lib.hid hq
      clear hd hO t0 hq
      go_wp2
      go_ret
      exact ⟨by rw [Q.out]; rfl, H.out⟩
end Go.Proofs.Ytkganajbilnanaa
