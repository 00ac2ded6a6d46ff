/- rec's document: Encode. Conditions: the record lies there. -/
import Derived.Test.YthbaoljghofkoaaRecFt
namespace Go.Proofs.Ythbaoljghofkoaa
open Go.ChangeShapes Go.WideShapes Go.ChangeAt Go.RowKit
open NumMath
set_option linter.unusedVariables false
set_option linter.unusedSimpArgs false
set_option maxRecDepth 20000

def RefEncPost (r : RecP) (w : World) (e : Ending) (w' : World) : Prop :=
  Below w.heap.size w w' ∧ ((okR r = true ∧ ∃ A c, e = .returned (.tuple #[.slice A (encL r).length c, .int .i64 0]) ∧ w'.ownsRow w.heap.size 5 1 (.slice A (encL r).length c) (encL r).length ((encL r).map byteV)) ∨
    (okR r = false ∧ e = .returned (.tuple #[.slice none 0 0, .int .i64 61])))
set_option maxHeartbeats 8000000 in
theorem refencode_any (r : RecP) (m : RecMm) (B : Nat) (w : World) (h : RecAt w B r m) (hB : B ≤ w.heap.size) :
    Calls Try.prog 13 #[.agg (recA r m)] w (RefEncPost r w) := by
  have kb := Blk.new w 31 (recA r m)
  have hb := below_alloc w (.cells (recA r m) 31)
  have hr := h.below (hb.mono hB)
  obtain ⟨f0, f1, f2, f3, -, -, -⟩ := h.fits
  go_enter Try.func13, Try.ntmps13
  go_upto_region 1 with fail
  generalize World.alloc w _ = W0 at *
  have hg := kb.lt
  have LD : Hid (∀ W, Below W0.heap.size W0 W → (Instr.loadAt 31 (.pointer (some ⟨w.heap.size, 0, none⟩))).run Try.prog W = .ok (.agg (recA r m)) W ∧ (Instr.loadAt 27 (.pointer (some ⟨w.heap.size, 4, none⟩))).run Try.prog W = .ok (.agg (chgV r.chg m.cm)) W) := Lib.hid fun W hW => ⟨load_rec (kb.below hW hg), load_chg (kb.below hW hg)⟩
  have KB : Hid (∀ W, Below W0.heap.size W0 W → W.cell? ⟨w.heap.size, 0, none⟩ = some (.int .u8 (r.kind : Nat)) ∧ W.cell? ⟨w.heap.size, 1, none⟩ = some (.int .u32 (r.txn : Nat)) ∧ W.cell? ⟨w.heap.size, 2, none⟩ = some (.int .u64 (r.prev : Nat)) ∧ W.cell? ⟨w.heap.size, 3, none⟩ = some (.int .u64 (r.next : Nat))) := Lib.hid fun W hW => by
    have q := RecBox.of (kb.below hW hg)
    exact ⟨q.k0, q.k1, q.k2, q.k3⟩
  have HR : Hid (∀ W, Below W0.heap.size W0 W → RecAt W B r m) := Lib.hid fun W hW => hr.below (hW.mono (Nat.le_trans hB hb.size))
  have HB := Lib.hid hb
  have hBW : B ≤ W0.heap.size := Nat.le_trans hB hb.size
  have ld := (LD.out W0 (Below.refl _ _)).1
  have cm := rmay_any r m B W0 (HR.out W0 (Below.refl _ _)) hBW
  have HOK : Hid (okR r = okR r) := Lib.hid rfl
  have hlens := fun q : okR r = true => okR_lens q
  have hbody := fun q : okR r = true => bodyL_length q
  have HPB : Hid (bodyL r = headB r ++ (if chgs r.kind = true then chgL r.chg else if r.kind = 8 then tabL r else [])) := Lib.hid rfl
  have HHB : Hid (headB r = [r.kind] ++ putF 4 r.txn ++ putF 8 r.prev ++ putF 8 r.next) := Lib.hid (by unfold headB; rw [putF_one f0])
  have HEN : Hid (encL r = putF 2 ((bodyL r).length + 6) ++ putF 4 (sumB (bodyL r)) ++ bodyL r) := Lib.hid rfl
  have HEP : Hid (∀ e W, RefEncPost r w e W ↔ RefEncPost r w e W) := Lib.hid fun _ _ => Iff.rfl
  unfold RmPost at cm
  clear hr h hb HOK HEP kb
  generalize hok : okR r = ok at *
  have HOK := Lib.hid hok
  clear hok
  go_wp2_with (refine wpList_load_run rfl 31 (.tmp 1) _ _ rfl rfl ld ?_; clear ld)
  refine cm.mono ?_
  rintro e w1 ⟨rfl, b1⟩
  have B1 := Lib.hid b1
  clear cm b1
  cases ok
  · have F : Hid (RefEncPost r w (.returned (.tuple #[.slice none 0 0, .int .i64 61])) w1) := Lib.hid ⟨HB.out.trans (B1.out.mono HB.out.size), .inr ⟨HOK.out, rfl⟩⟩
    clear hlens hbody
    go_wp2
    go_ret2
    exact F.out
  have hlens := hlens rfl
  have hbody := hbody rfl
  obtain ⟨k0, -, -, -⟩ := KB.out w1 B1.out
  generalize r.kind = k at *
  generalize r.txn = tx at *
  generalize r.prev = pv at *
  generalize r.next = nx at *
  have v1 : IntKind.u64.wrap (tx : Int) = (tx : Int) := by rw [IntKind.wrap_u64]; omega
  go_upto_region 5 with fail
  have r1 := one_rb w1 f0
  generalize World.alloc w1 _ = w2 at *
  obtain ⟨A0, hA0⟩ : ∃ A0, (some ⟨w1.heap.size, 0, none⟩ : Option Addr) = A0 := ⟨_, rfl⟩
  rw [hA0] at r1 ⊢
  have TW : Hid (∀ W, Below w1.heap.size w1 W → Below W0.heap.size W0 W) := Lib.hid fun W hW => B1.out.trans (hW.mono B1.out.size)
  obtain ⟨k0, k1, -, -⟩ := KB.out w2 (TW.out _ r1.2.1)
  clear hA0
  go_wp2_with fail
  refine (refputn_any tx 4 w2 (by omega) (by omega) (by omega)).mono ?_
  rintro e v2 ⟨B2, d2, rfl, o2, b2⟩
  have q2 := r1.keep b2
  have x2 := own_bytes o2 (putF_small 4 tx)
  clear o2 b2 r1 k0 k1 v1
  go_upto_region 6 with (at_builtin; refine wpList_append_rb rfl _ _ 25 25 rfl Try.underlying25 Try.underlying25 q2 rfl v2.heap.size B2 4 d2 (putF 4 tx) rfl x2 (putF_length _ _) (by omega) ?_; intro A2 c2 w3 r2; clear q2 x2)
  obtain ⟨-, -, k2, -⟩ := KB.out w3 (TW.out _ r2.2.1)
  go_wp2_with fail
  refine (refputn_any pv 8 w3 f2 (by omega) (by omega)).mono ?_
  rintro e v3 ⟨B3, d3, rfl, o3, b3⟩
  have q3 := r2.keep b3
  have x3 := own_bytes o3 (putF_small 8 pv)
  clear o3 b3 r2 k2
  go_upto_region 7 with (at_builtin; refine wpList_append_rb rfl _ _ 25 25 rfl Try.underlying25 Try.underlying25 q3 rfl v3.heap.size B3 8 d3 (putF 8 pv) rfl x3 (putF_length _ _) (by omega) ?_; intro A3 c3 w4 r3; clear q3 x3)
  obtain ⟨-, -, -, k3⟩ := KB.out w4 (TW.out _ r3.2.1)
  go_wp2_with fail
  refine (refputn_any nx 8 w4 f3 (by omega) (by omega)).mono ?_
  rintro e v4 ⟨B4, d4, rfl, o4, b4⟩
  have q4 := r3.keep b4
  have x4 := own_bytes o4 (putF_small 8 nx)
  clear o4 b4 r3 k3
  go_upto_region 8 with (at_builtin; refine wpList_append_rb rfl _ _ 25 25 rfl Try.underlying25 Try.underlying25 q4 rfl v4.heap.size B4 8 d4 (putF 8 nx) rfl x4 (putF_length _ _) (by omega) ?_; intro A4 c4 w5 r4; clear q4 x4)
  rw [← HHB.out] at r4
  obtain ⟨k0, -, -, -⟩ := KB.out w5 (TW.out _ r4.2.1)
  clear HHB
  generalize headB r = hd at *
  replace r4 : RB w1 w5 A4 21 c4 hd := r4
  have HL := Lib.hid hlens
  have HBO := Lib.hid hbody
  clear hlens hbody
  have hc := chgs_cases k
  go_cut [5, 37] (fun u v wx => v = .bool (chgs k) ∧ w5 = wx ∧ ∃ (n c : Nat) (A : Option Addr), u = .slice A n c ∧ n ≤ 21 ∧ RB w1 w5 A n c hd)
  case first =>
    have R4 := Lib.hid r4
    clear r4
    rcases hc with ⟨rfl, e⟩ | ⟨e1, rfl, e⟩ | ⟨e1, e2, e⟩
    · have HE := Lib.hid e
      clear e
      go_wp2
      go_meet
      case rel => exact ⟨rfl, rfl, 21, c4, A4, rfl, Nat.le_refl _, R4.out⟩
    · have HE := Lib.hid e
      clear e e1
      go_wp2
      go_meet
      case rel => exact ⟨rfl, rfl, 21, c4, A4, rfl, Nat.le_refl _, R4.out⟩
    · have t1 : ((k : Int) == 2) = false := by rw [beq_eq_false_iff_ne]; omega
      have t2 : ((k : Int) == 3) = false := by rw [beq_eq_false_iff_ne]; omega
      have HE := Lib.hid e
      clear e
      go_wp2
      go_meet
      case rel => exact ⟨by rw [HE.out], rfl, 21, c4, A4, rfl, Nat.le_refl _, R4.out⟩
  case rest =>
    clear r4
    obtain ⟨rfl, rfl, n, c, A, rfl, hn21, r4⟩ := hcut
    have h38 : chgs k = true → k ≠ 8 := fun q => by
      rcases hc with ⟨rfl, -⟩ | ⟨-, rfl, -⟩ | ⟨-, -, e⟩
      · decide
      · decide
      · rw [e] at q; cases q
    clear hc
    have LAST : ∃ x, (chgs k = true ∧ ((k : Int) == 8) = false ∧ x = chgL r.chg) ∨ (chgs k = false ∧ ((k : Int) == 8) = true ∧ x = tabL r) ∨ (chgs k = false ∧ ((k : Int) == 8) = false ∧ x = []) := by
      rcases hk : chgs k with _ | _
      · by_cases h8 : k = 8
        · exact ⟨_, .inr (.inl ⟨rfl, by rw [beq_iff_eq]; omega, rfl⟩)⟩
        · exact ⟨_, .inr (.inr ⟨rfl, by rw [beq_eq_false_iff_ne]; omega, rfl⟩)⟩
      · have := h38 hk
        exact ⟨_, .inl ⟨rfl, by rw [beq_eq_false_iff_ne]; omega, rfl⟩⟩
    obtain ⟨x, hx⟩ := LAST
    have HBL : Hid (bodyL r = hd ++ x) := Lib.hid (by
      rw [HPB.out]
      rcases hx with ⟨e, -, rfl⟩ | ⟨e, e8, rfl⟩ | ⟨e, e8, rfl⟩
      · rw [if_pos e]
      · rw [if_neg (by rw [e]; decide), if_pos (by rw [beq_iff_eq] at e8; omega)]
      · rw [if_neg (by rw [e]; decide), if_neg (by rw [beq_eq_false_iff_ne] at e8; omega)])
    obtain ⟨bn, hbn⟩ : ∃ bn, (hd ++ x).length = bn := ⟨_, rfl⟩
    have HBN : Hid ((hd ++ x).length = bn ∧ 21 ≤ bn ∧ bn ≤ 2200) := Lib.hid (by
      have := HBO.out (by trivial)
      rw [HBL.out, hbn] at this
      exact ⟨hbn, this⟩)
    have hx2200 : x.length ≤ 2200 := by
      have := HBN.out
      rw [List.length_append] at this
      omega
    clear hbn h38 HBO
    rcases hx with ⟨e, e8, rfl⟩ | ⟨e, e8, rfl⟩ | ⟨e, e8, rfl⟩
    · rw [e]
      have ld := (LD.out w5 (TW.out _ r4.2.1)).2
      have hb5 := TW.out _ r4.2.1
      have cc := refchange_any r.chg m.cm B w5 (HR.out w5 hb5).chg (Nat.le_trans hBW hb5.size) (Nat.le_trans (HL.out (by trivial)).2.2.1 (by decide)) (Nat.le_trans (HL.out (by trivial)).2.2.2 (by decide))
      clear hb5 e k0
      generalize chgL r.chg = x at *
      go_wp2_with (refine wpList_load_run rfl 27 (.tmp 39) _ _ rfl rfl ld ?_; clear ld)
      refine cc.mono ?_
      rintro e w6 hret
      obtain ⟨A5, c5, rfl, -, b6, x6⟩ := hret.is
      have q5 := r4.keep b6
      obtain ⟨xn, hxn⟩ : ∃ xn, x.length = xn := ⟨_, rfl⟩
      rw [hxn] at hx2200 ⊢
      clear hret b6 r4 cc
      go_upto_region 10 with (at_builtin; refine wpList_append_rb rfl _ _ 25 25 rfl Try.underlying25 Try.underlying25 q5 rfl w6.heap.size A5 xn c5 x rfl x6 hxn (by omega) ?_; intro A6 c6 w7 r5; clear q5 x6)
      obtain ⟨k0, -, -, -⟩ := KB.out w7 (TW.out _ r5.2.1)
      have hnn : n + xn = bn := r5.2.2.2.symm.trans HBN.out.1
      rw [hnn] at r5 ⊢
      clear hnn hxn hx2200 hn21
      have R5 := Lib.hid r5
      clear r5
      go_upto_region 12 with fail
      clear k0 e8
      generalize hd ++ x = L at *
      have HL5 := Lib.hid R5.out.bytes
      obtain ⟨N, hN⟩ : ∃ N, bn + 6 = N := ⟨_, rfl⟩
      have hbn := HBN.out
      have v1 : IntKind.i64.wrap ((bn : Int) + 6) = (N : Int) := by rw [IntKind.wrap_i64]; omega
      have v2 : IntKind.u64.wrap (N : Int) = (N : Int) := by rw [IntKind.wrap_u64]; omega
      have cp := refputn_any N 2 w7 (by omega) (by omega) (by omega)
      have HNN := Lib.hid hN
      have hb22 := hbn.2.2
      clear hN hbn
      go_wp2_with fail
      refine cp.mono ?_
      rintro e w8 ⟨A8, c8, rfl, o8, b8⟩
      have r8 := RB.of_ret (Below.refl _ w7) o8 b8 (putF_small 2 N) (putF_length 2 N)
      have l8 := HL5.out.below b8
      have csum := refsum_any A6 c6 L w7.heap.size w8 l8 (by rw [HBN.out.1]; exact Nat.le_trans HBN.out.2.2 (by decide))
      rw [HBN.out.1] at csum
      have hs := sumB_lt HL5.out.2
      have HS : Hid (CrcMath.sumFrom 0 L = sumB L) := Lib.hid rfl
      rw [HS.out] at csum
      generalize hss : sumB L = s at *
      have HSS := Lib.hid hss
      clear hss
      have v3 : IntKind.u64.wrap (s : Int) = (s : Int) := by rw [IntKind.wrap_u64]; omega
      clear cp o8 b8 v1 v2
      go_wp2_with fail
      refine csum.mono ?_
      rintro e w9 ⟨rfl, rfl⟩
      clear csum
      go_wp2_with fail
      refine (refputn_any s 4 w8 (by omega) (by omega) (by omega)).mono ?_
      rintro e w9 ⟨A9, c9, rfl, o9, b9⟩
      have q9 := r8.keep b9
      have x9 := own_bytes o9 (putF_small 4 s)
      clear o9 b9 r8 v3 l8
      go_upto_region 14 with (at_builtin; refine wpList_append_rb rfl _ _ 25 25 rfl Try.underlying25 Try.underlying25 q9 rfl w9.heap.size A9 4 c9 (putF 4 s) rfl x9 (putF_length _ _) (by omega) ?_; intro A10 c10 w10 r10; clear q9 x9)
      have l10 := HL5.out.below r10.2.1
      go_wp2_with (at_builtin; refine wpList_append_rb rfl _ _ 25 25 rfl Try.underlying25 Try.underlying25 r10 rfl w7.heap.size A6 bn c6 L rfl l10 HBN.out.1 (by omega) ?_; intro A11 c11 w11 r11; clear r10 l10)
      have hle : (encL r).length = 2 + 4 + bn := by rw [HEN.out, HBL.out, List.length_append, List.length_append, putF_length, putF_length, HBN.out.1]
      have hb7 : Below w.heap.size w w7 := HB.out.trans ((TW.out _ R5.out.2.1).mono HB.out.size)
      have o11 : w11.ownsRow w.heap.size 5 1 (.slice A11 (encL r).length c11) (encL r).length ((encL r).map byteV) := by
        rw [hle, HEN.out, HBL.out, HBN.out.1, HNN.out, HSS.out]
        exact own_base hb7.size r11.1
      have F : Hid (RefEncPost r w (.returned (.tuple #[.slice A11 (2 + 4 + bn) c11, .int .i64 0])) w11) := Lib.hid ⟨hb7.trans (r11.2.1.mono hb7.size), .inl ⟨HOK.out, A11, c11, by rw [hle], o11⟩⟩
      go_ret2
      exact F.out
    · rw [e]
      go_upto_region 11 with fail
      have ld := (LD.out w5 (TW.out _ r4.2.1)).1
      have hb5 := TW.out _ r4.2.1
      have cc := reftables_any r m B w5 (HR.out w5 hb5) (Nat.le_trans hBW hb5.size) (HL.out (by trivial)).1 (HL.out (by trivial)).2.1
      clear hb5 e k0
      generalize tabL r = x at *
      go_wp2_with (refine wpList_load_run rfl 31 (.tmp 1) _ _ rfl rfl ld ?_; clear ld)
      refine cc.mono ?_
      rintro e w6 hret
      obtain ⟨A5, c5, rfl, -, b6, x6⟩ := hret.is
      have q5 := r4.keep b6
      obtain ⟨xn, hxn⟩ : ∃ xn, x.length = xn := ⟨_, rfl⟩
      rw [hxn] at hx2200 ⊢
      clear hret b6 r4 cc
      go_upto_region 12 with (at_builtin; refine wpList_append_rb rfl _ _ 25 25 rfl Try.underlying25 Try.underlying25 q5 rfl w6.heap.size A5 xn c5 x rfl x6 hxn (by omega) ?_; intro A6 c6 w7 r5; clear q5 x6)
      have hnn : n + xn = bn := r5.2.2.2.symm.trans HBN.out.1
      rw [hnn] at r5 ⊢
      clear hnn hxn hx2200 hn21 e8
      have R5 := Lib.hid r5
      clear r5
      generalize hd ++ x = L at *
      have HL5 := Lib.hid R5.out.bytes
      obtain ⟨N, hN⟩ : ∃ N, bn + 6 = N := ⟨_, rfl⟩
      have hbn := HBN.out
      have v1 : IntKind.i64.wrap ((bn : Int) + 6) = (N : Int) := by rw [IntKind.wrap_i64]; omega
      have v2 : IntKind.u64.wrap (N : Int) = (N : Int) := by rw [IntKind.wrap_u64]; omega
      have cp := refputn_any N 2 w7 (by omega) (by omega) (by omega)
      have HNN := Lib.hid hN
      have hb22 := hbn.2.2
      clear hN hbn
      go_wp2_with fail
      refine cp.mono ?_
      rintro e w8 ⟨A8, c8, rfl, o8, b8⟩
      have r8 := RB.of_ret (Below.refl _ w7) o8 b8 (putF_small 2 N) (putF_length 2 N)
      have l8 := HL5.out.below b8
      have csum := refsum_any A6 c6 L w7.heap.size w8 l8 (by rw [HBN.out.1]; exact Nat.le_trans HBN.out.2.2 (by decide))
      rw [HBN.out.1] at csum
      have hs := sumB_lt HL5.out.2
      have HS : Hid (CrcMath.sumFrom 0 L = sumB L) := Lib.hid rfl
      rw [HS.out] at csum
      generalize hss : sumB L = s at *
      have HSS := Lib.hid hss
      clear hss
      have v3 : IntKind.u64.wrap (s : Int) = (s : Int) := by rw [IntKind.wrap_u64]; omega
      clear cp o8 b8 v1 v2
      go_wp2_with fail
      refine csum.mono ?_
      rintro e w9 ⟨rfl, rfl⟩
      clear csum
      go_wp2_with fail
      refine (refputn_any s 4 w8 (by omega) (by omega) (by omega)).mono ?_
      rintro e w9 ⟨A9, c9, rfl, o9, b9⟩
      have q9 := r8.keep b9
      have x9 := own_bytes o9 (putF_small 4 s)
      clear o9 b9 r8 v3 l8
      go_upto_region 14 with (at_builtin; refine wpList_append_rb rfl _ _ 25 25 rfl Try.underlying25 Try.underlying25 q9 rfl w9.heap.size A9 4 c9 (putF 4 s) rfl x9 (putF_length _ _) (by omega) ?_; intro A10 c10 w10 r10; clear q9 x9)
      have l10 := HL5.out.below r10.2.1
      go_wp2_with (at_builtin; refine wpList_append_rb rfl _ _ 25 25 rfl Try.underlying25 Try.underlying25 r10 rfl w7.heap.size A6 bn c6 L rfl l10 HBN.out.1 (by omega) ?_; intro A11 c11 w11 r11; clear r10 l10)
      have hle : (encL r).length = 2 + 4 + bn := by rw [HEN.out, HBL.out, List.length_append, List.length_append, putF_length, putF_length, HBN.out.1]
      have hb7 : Below w.heap.size w w7 := HB.out.trans ((TW.out _ R5.out.2.1).mono HB.out.size)
      have o11 : w11.ownsRow w.heap.size 5 1 (.slice A11 (encL r).length c11) (encL r).length ((encL r).map byteV) := by
        rw [hle, HEN.out, HBL.out, HBN.out.1, HNN.out, HSS.out]
        exact own_base hb7.size r11.1
      have F : Hid (RefEncPost r w (.returned (.tuple #[.slice A11 (2 + 4 + bn) c11, .int .i64 0])) w11) := Lib.hid ⟨hb7.trans (r11.2.1.mono hb7.size), .inl ⟨HOK.out, A11, c11, by rw [hle], o11⟩⟩
      go_ret2
      exact F.out
    · rw [e]
      have hnn : n = bn := r4.2.2.2.symm.trans (by rw [← HBN.out.1, List.append_nil])
      subst hnn
      have r5 : RB w1 w5 A n c (hd ++ []) := by rw [List.append_nil]; exact r4
      have R5 := Lib.hid r5
      clear r4 r5 e
      go_upto_region 12 with fail
      clear k0 e8
      generalize hd ++ [] = L at *
      have HL5 := Lib.hid R5.out.bytes
      obtain ⟨N, hN⟩ : ∃ N, n + 6 = N := ⟨_, rfl⟩
      have hbn := HBN.out
      have v1 : IntKind.i64.wrap ((n : Int) + 6) = (N : Int) := by rw [IntKind.wrap_i64]; omega
      have v2 : IntKind.u64.wrap (N : Int) = (N : Int) := by rw [IntKind.wrap_u64]; omega
      have cp := refputn_any N 2 w5 (by omega) (by omega) (by omega)
      have HNN := Lib.hid hN
      have hb22 := hbn.2.2
      clear hN hbn
      go_wp2_with fail
      refine cp.mono ?_
      rintro e w8 ⟨A8, c8, rfl, o8, b8⟩
      have r8 := RB.of_ret (Below.refl _ w5) o8 b8 (putF_small 2 N) (putF_length 2 N)
      have l8 := HL5.out.below b8
      have csum := refsum_any A c L w5.heap.size w8 l8 (by rw [HBN.out.1]; exact Nat.le_trans HBN.out.2.2 (by decide))
      rw [HBN.out.1] at csum
      have hs := sumB_lt HL5.out.2
      have HS : Hid (CrcMath.sumFrom 0 L = sumB L) := Lib.hid rfl
      rw [HS.out] at csum
      generalize hss : sumB L = s at *
      have HSS := Lib.hid hss
      clear hss
      have v3 : IntKind.u64.wrap (s : Int) = (s : Int) := by rw [IntKind.wrap_u64]; omega
      clear cp o8 b8 v1 v2
      go_wp2_with fail
      refine csum.mono ?_
      rintro e w9 ⟨rfl, rfl⟩
      clear csum
      go_wp2_with fail
      refine (refputn_any s 4 w8 (by omega) (by omega) (by omega)).mono ?_
      rintro e w9 ⟨A9, c9, rfl, o9, b9⟩
      have q9 := r8.keep b9
      have x9 := own_bytes o9 (putF_small 4 s)
      clear o9 b9 r8 v3 l8
      go_upto_region 14 with (at_builtin; refine wpList_append_rb rfl _ _ 25 25 rfl Try.underlying25 Try.underlying25 q9 rfl w9.heap.size A9 4 c9 (putF 4 s) rfl x9 (putF_length _ _) (by omega) ?_; intro A10 c10 w10 r10; clear q9 x9)
      have l10 := HL5.out.below r10.2.1
      go_wp2_with (at_builtin; refine wpList_append_rb rfl _ _ 25 25 rfl Try.underlying25 Try.underlying25 r10 rfl w5.heap.size A n c L rfl l10 HBN.out.1 (by omega) ?_; intro A11 c11 w11 r11; clear r10 l10)
      have hle : (encL r).length = 2 + 4 + n := by rw [HEN.out, HBL.out, List.length_append, List.length_append, putF_length, putF_length, HBN.out.1]
      have hb7 : Below w.heap.size w w5 := HB.out.trans ((TW.out _ R5.out.2.1).mono HB.out.size)
      have o11 : w11.ownsRow w.heap.size 5 1 (.slice A11 (encL r).length c11) (encL r).length ((encL r).map byteV) := by
        rw [hle, HEN.out, HBL.out, HBN.out.1, HNN.out, HSS.out]
        exact own_base hb7.size r11.1
      have F : Hid (RefEncPost r w (.returned (.tuple #[.slice A11 (2 + 4 + n) c11, .int .i64 0])) w11) := Lib.hid ⟨hb7.trans (r11.2.1.mono hb7.size), .inl ⟨HOK.out, A11, c11, by rw [hle], o11⟩⟩
      go_ret2
      exact F.out
end Go.Proofs.Ythbaoljghofkoaa
