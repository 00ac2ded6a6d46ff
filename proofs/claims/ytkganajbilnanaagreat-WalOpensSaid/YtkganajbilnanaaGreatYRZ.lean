/- The document's log: Open. Conditions: the device lies there; what the program's Open reads are records. -/
import Derived.Test.YtkganajbilnanaaGreatYRO
import Derived.Test.YtkganajbilnanaaGreatYRP
import Derived.Test.YtkganajbilnanaaGreatYRV
import Derived.StillTailTactics
set_option linter.unusedVariables false
set_option linter.unusedSimpArgs false
namespace Go.Proofs.YtkganajbilnanaaGreat
open Go.ChangeShapes Go.WideShapes Go.ChangeAt Go.RowKit
open NumMath
set_option maxRecDepth 20000
theorem own_take {w : World} {base : Nat} {e : TypeId} {A : Option Addr} {n c : Nat} {xs : List Value} (h : w.ownsRow base e 1 (.slice A n c) n xs) {x : Nat} (hx : x ≤ n) : w.ownsRow base e 1 (.slice A x c) x (xs.take x) := by
  obtain ⟨h1, h2⟩ := h
  refine ⟨by rw [List.length_take]; omega, ?_⟩
  rcases h2 with ⟨q1, q2⟩ | ⟨g, cap, cur, q1, q2, q3, q4, q5, q6, q7⟩
  · injection q1 with e1 e2 e3
    subst e1
    subst e3
    exact .inl ⟨by rw [show x = 0 by omega], by omega⟩
  · injection q1 with e1 e2 e3
    subst e1
    subst e3
    refine .inr ⟨g, c, cur, rfl, q2, q3, by omega, q5, q6, ?_⟩
    rw [← q7, List.take_take, Nat.mul_one, Nat.mul_one, Nat.min_eq_left hx]
theorem RLg.setStream {L : LogP} {D : DevP} {w : World} {F G : Nat → Prop} {gl x c : Nat} {A : Option Addr} {pd sv st : Value} {l : List Nat} (h : RLg L D w F G gl pd sv st) (ho : w.ownsRow 0 5 1 (.slice A x c) x (l.map byteV)) (hn : l.length = x) (hs : Small l) (hX : ∀ b, (Value.slice A x c).ownBlock = some b → ¬ F b ∧ b < w.heap.size) :
    RLg { L with stream := l } D (w.setCell ⟨gl, 4, none⟩ (.slice A x c)) F (fun b => G b ∨ (Value.slice A x c).ownBlock = some b) gl pd (.slice A x c) st ∧ Only (fun b => b = gl) w (w.setCell ⟨gl, 4, none⟩ (.slice A x c)) := by
  have o : Only (fun b => b = gl) w (w.setCell ⟨gl, 4, none⟩ (.slice A x c)) := (Only.refl (fun b => b = gl) w).setCell (p := ⟨gl, 4, none⟩) (.inl rfl) _
  have hgl : Ty w gl 98 := h.log.blk.ty
  have ho' := o.own ho fun k e q => by subst q; exact absurd ((own_ty ho e).uniq hgl) (by decide)
  refine ⟨⟨h.dev.only o fun b q e => by subst e; exact h.dis b q h.log.inG, ⟨h.log.blk.set_ 4 _, .inl h.log.inG, Strm.own ho' hn hs fun b e => .inr e, o.own h.log.strt fun k e q => by subst q; exact absurd ((own_ty h.log.strt e).uniq hgl) (by decide), fun b e => .inl (h.log.strtG b e)⟩, ?_, ?_, ?_⟩, o⟩
  · intro b q q'
    rcases q' with z | z
    · exact h.dis b q z
    · exact (hX b z).1 q
  · exact fun b q => Nat.lt_of_lt_of_le (h.hiF b q) o.size
  · intro b q
    rcases q with z | z
    · exact Nat.lt_of_lt_of_le (h.hiG b z) o.size
    · exact Nat.lt_of_lt_of_le (hX b z).2 o.size
theorem RLg.lasts {L : LogP} {D : DevP} {w : World} {F G : Nat → Prop} {gl : Nat} {pd sv st : Value} (h : RLg L D w F G gl pd sv st) (x : Nat) : RLg { L with lasts := x } D (w.setCell ⟨gl, 6, none⟩ (.int .i64 (x : Nat))) F G gl pd sv st ∧ Only (fun b => b = gl) w (w.setCell ⟨gl, 6, none⟩ (.int .i64 (x : Nat))) := by
  have o : Only (fun b => b = gl) w (w.setCell ⟨gl, 6, none⟩ (.int .i64 (x : Nat))) := (Only.refl (fun b => b = gl) w).setCell (p := ⟨gl, 6, none⟩) (.inl rfl) _
  exact ⟨h.box o (h.log.blk.set_ 6 _) rfl rfl, o⟩
def ROpen8Post (D : DevP) (F : Nat → Prop) (pd : Value) (w : World) (e : Ending) (w' : World) : Prop :=
  (opens D = false ∧ e = .returned (.tuple #[.pointer none, .int .i64 82]) ∧ Below w.heap.size w w') ∨
    (opens D = true ∧ ∃ gl, e = .returned (.tuple #[.pointer (some ⟨gl, 0, none⟩), .int .i64 0]) ∧ RLgPost (openL D) (openD D) F (fun _ => False) gl pd w w')
set_option maxHeartbeats 16000000 in
theorem ropen8_any {D : DevP} {w : World} {F : Nat → Prop} {pd : Value} (h : IsRDev D w F pd) (hF : ∀ b, F b → b < w.heap.size) {N : Nat} (hG : D.good N) (hN : N + 6000 ≤ 100000) (hz : D.size 0 ≤ 126) (hsm : D.small) (hgr : opens D = true → GoodR (openR D)) :
    Calls Tryz.prog 9 #[pd] w (ROpen8Post D F pd w) := by
  obtain ⟨i0, hi0, hz0, hz1, hz2⟩ := info_parts int_info
  obtain ⟨i1, hi1, hy0, hy1, hy2⟩ := info_parts slice_info
  have con := ron_any h (by omega)
  obtain ⟨gp, s0, lv0, X0, rfl, -⟩ := id h
  go_enter Tryz.func9, Tryz.ntmps9
  go_wp2_with fail
  refine con.mono ?_
  rintro e w2 ⟨hb2, (⟨hlt, rfl⟩ | ⟨hge, rfl, hl⟩)⟩
  · have F1 : Hid (ROpen8Post D F (.pointer (some ⟨gp, 0, none⟩)) w (.returned (.tuple #[.pointer none, .int .i64 82])) w2) := Lib.hid (.inl ⟨by unfold opens; rw [decide_eq_false (by omega)]; rfl, rfl, hb2⟩)
    clear con hb2 hlt h hF hG hz hgr
    go_wp2
    go_ret2
    exact F1.out
  obtain ⟨gl, hgl⟩ : ∃ gl, w.heap.size = gl := ⟨_, rfl⟩
  rw [hgl] at hl
  rw [hgl]
  have hL2 : RLg (logZ ((D.size 0 - 2) / 2)) D w2 F (fun b => b = gl) gl (.pointer (some ⟨gp, 0, none⟩)) (.slice none 0 0) (.slice none 0 0) := by
    refine ⟨h.below hb2, hl, fun b q e => by have := hF b q; omega, fun b q => Nat.lt_of_lt_of_le (hF b q) hb2.size, fun b e => by rw [e]; exact hl.blk.lt⟩
  obtain ⟨s, hs⟩ : ∃ s, (D.size 0 - 2) / 2 = s := ⟨_, rfl⟩
  rw [hs] at hL2
  have h2D : 2 ≤ (D.f 0).length := by have hsz : D.size 0 = (D.f 0).length := rfl; omega
  have HGR := Lib.hid hgr
  have HSM := Lib.hid hsm
  have HS := Lib.hid hs
  have HGE := Lib.hid hge
  have hs62 : s ≤ 62 := by omega
  have HL2 := Lib.hid hL2
  have HB2 := Lib.hid hb2
  have HGL := Lib.hid hgl
  have HF := Lib.hid hF
  clear con hl hgr hsm hs hge hb2 h hgl hz hF
  go_wp2_with fail
  go_loopw [7, 6, 8, 9, 10, 11, 12, 13, 14] (fun v7 v6 _ _ _ _ _ _ _ wr => ∃ (k : Nat), k ≤ 2 ∧ v7 = .int .i64 (k : Nat) ∧ v6 = .bool (decide (0 < (findK D k).1.stamp)) ∧ RLg ⟨(findK D k).1, s, (findK D k).2, [], [], 0⟩ D wr F (fun b => b = gl) gl (.pointer (some ⟨gp, 0, none⟩)) (.slice none 0 0) (.slice none 0 0) ∧ Only (fun b => b = gl) w2 wr) (fun v7 _ _ _ _ _ _ _ _ _ => 2 - (intOf v7).toNat)
  case atStart => exact ⟨0, by omega, rfl, rfl, hL2, Only.refl _ _⟩
  case round =>
    clear hL2
    obtain ⟨k, hk, rfl, rfl, hd, hO⟩ := hrel
    rcases Nat.lt_or_ge k 2 with hlt | hge
    · have e1 : decide ((k : Int) < 2) = true := by rw [decide_eq_true_iff]; omega
      have hkl : k < (D.f 0).length := by omega
      have hrd := rread_any hd.dev hG (by omega) 0 (by omega) (k : Int)
      have hln := DevP.newest_len hG hkl
      have hstep : findK D (k + 1) = findStep D k (findK D k) := rfl
      unfold findStep at hstep
      rw [DevP.read_in hkl] at hrd hstep
      simp only at hrd hstep
      generalize (D.sect 0 k).newest = lr at *
      generalize hs : findK D k = sk at *
      obtain ⟨hh, sl⟩ := sk
      simp only at hd hstep
      have kb := hd.log.blk
      have NXT : Hid (∀ W, Below wr.heap.size wr W → ¬ (isHead lr = true ∧ hh.stamp < (wheadP lr).stamp) → (findK D (k + 1)).1.stamp = hh.stamp ∧ RLg ⟨(findK D (k + 1)).1, s, (findK D (k + 1)).2, [], [], 0⟩ D W F (fun b => b = gl) gl (.pointer (some ⟨gp, 0, none⟩)) (.slice none 0 0) (.slice none 0 0) ∧ Only (fun b => b = gl) w2 W) := Lib.hid fun W hW hn => by
        rw [hstep, if_neg hn]
        exact ⟨rfl, hd.below hW, hO.trans (Only.of_below hW (fun _ => False)) fun b z => z.elim⟩
      have NXT2 : Hid (∀ W5, Below wr.heap.size wr W5 → (isHead lr = true ∧ hh.stamp < (wheadP lr).stamp) → 0 < (findK D (k + 1)).1.stamp ∧ RLg ⟨(findK D (k + 1)).1, s, (findK D (k + 1)).2, [], [], 0⟩ D (((((W5.setCell ⟨gl, 8, none⟩ (.int .u64 ((wheadP lr).stamp : Nat))).setCell ⟨gl, 2, none⟩ (.int .i64 ((wheadP lr).area : Nat))).setCell ⟨gl, 3, none⟩ (.int .u64 ((wheadP lr).base : Nat))).setCell ⟨gl, 7, none⟩ (.int .u64 ((wheadP lr).check : Nat))).setCell ⟨gl, 9, none⟩ (.int .i64 (k : Nat))) F (fun b => b = gl) gl (.pointer (some ⟨gp, 0, none⟩)) (.slice none 0 0) (.slice none 0 0) ∧ Only (fun b => b = gl) w2 (((((W5.setCell ⟨gl, 8, none⟩ (.int .u64 ((wheadP lr).stamp : Nat))).setCell ⟨gl, 2, none⟩ (.int .i64 ((wheadP lr).area : Nat))).setCell ⟨gl, 3, none⟩ (.int .u64 ((wheadP lr).base : Nat))).setCell ⟨gl, 7, none⟩ (.int .u64 ((wheadP lr).check : Nat))).setCell ⟨gl, 9, none⟩ (.int .i64 (k : Nat)))) := Lib.hid fun W5 hW hn => by
        rw [hstep, if_pos hn]
        have hd5 := hd.below hW
        have o5 : Only (fun b => b = gl) W5 (((((W5.setCell ⟨gl, 8, none⟩ (.int .u64 ((wheadP lr).stamp : Nat))).setCell ⟨gl, 2, none⟩ (.int .i64 ((wheadP lr).area : Nat))).setCell ⟨gl, 3, none⟩ (.int .u64 ((wheadP lr).base : Nat))).setCell ⟨gl, 7, none⟩ (.int .u64 ((wheadP lr).check : Nat))).setCell ⟨gl, 9, none⟩ (.int .i64 (k : Nat))) := (((((Only.refl (fun b => b = gl) W5).setCell (p := ⟨gl, 8, none⟩) (.inl rfl) _).setCell (p := ⟨gl, 2, none⟩) (.inl rfl) _).setCell (p := ⟨gl, 3, none⟩) (.inl rfl) _).setCell (p := ⟨gl, 7, none⟩) (.inl rfl) _).setCell (p := ⟨gl, 9, none⟩) (.inl rfl) _
        have k5 := (((((hd5.log.blk.set_ 8 (.int .u64 ((wheadP lr).stamp : Nat))).set_ 2 (.int .i64 ((wheadP lr).area : Nat))).set_ 3 (.int .u64 ((wheadP lr).base : Nat))).set_ 7 (.int .u64 ((wheadP lr).check : Nat))).set_ 9 (.int .i64 (k : Nat)))
        exact ⟨by have := hn.2; show 0 < (wheadP lr).stamp; omega, hd5.box (L' := ⟨wheadP lr, s, k, [], [], 0⟩) o5 k5 rfl rfl, (hO.trans (Only.of_below hW (fun _ => False)) fun b z => z.elim).trans o5 fun b z => .inl z⟩
      have CEL : Hid (∀ W5, Below wr.heap.size wr W5 → W5.cell? ⟨gl, 8, none⟩ = some (.int .u64 (hh.stamp : Nat)) ∧ W5.cell? ⟨gl, 2, none⟩ = some (.int .i64 (hh.area : Nat)) ∧ W5.cell? ⟨gl, 3, none⟩ = some (.int .u64 (hh.base : Nat)) ∧ W5.cell? ⟨gl, 7, none⟩ = some (.int .u64 (hh.check : Nat)) ∧ W5.cell? ⟨gl, 9, none⟩ = some (.int .i64 (sl : Nat)) ∧ W5.frozen? ⟨gl, 8, none⟩ = false ∧ W5.frozen? ⟨gl, 2, none⟩ = false ∧ W5.frozen? ⟨gl, 3, none⟩ = false ∧ W5.frozen? ⟨gl, 7, none⟩ = false ∧ W5.frozen? ⟨gl, 9, none⟩ = false) := Lib.hid fun W5 hW => by
        have k5 := kb.below hW kb.lt
        exact ⟨k5.cell 8, k5.cell 2, k5.cell 3, k5.cell 7, k5.cell 9, k5.frozen 8, k5.frozen 2, k5.frozen 3, k5.frozen 7, k5.frozen 9⟩
      have HIST : Hid (isHead lr = true → (wheadP lr).stamp ≠ 0) := Lib.hid fun q => by
        unfold isHead at q
        rw [Bool.and_eq_true, decide_eq_true_iff] at q
        exact q.1
      have HLN := Lib.hid hln
      clear hstep hd hO kb hkl hs h2D hln
      go_wp2_with fail
      refine hrd.mono ?_
      rintro e w4 ⟨A4, c4, rfl, ho4, hb4, hs4⟩
      have hln := HLN.out
      rw [hln] at ho4 ⊢
      have ch := rheader_any (own_bytes ho4 hs4) hln (own_cap ho4)
      clear hrd ho4 hs4 hln HLN
      go_wp2_with fail
      refine ch.mono ?_
      rintro e w5 ⟨rfl, d5⟩
      have hb5 := hb4.trans ((d5.below w4.heap.size).mono hb4.size)
      obtain ⟨x8, x2, x3, x7, x9, z8, z2, z3, z7, z9⟩ := CEL.out w5 hb5
      have N1 := Lib.hid (NXT.out w5 hb5)
      have N2 := Lib.hid (NXT2.out w5 hb5)
      clear NXT NXT2 CEL ch d5 hb5 hb4
      generalize wheadP lr = nh at *
      obtain ⟨stamp, base, check, area⟩ := nh
      obtain ⟨hst0, hba0, hck0, har0⟩ := hh
      simp only at *
      generalize isHead lr = ih at *
      cases ih with
      | false =>
        have H := Lib.hid (N1.out (fun q => by cases q.1))
        clear N1 N2 HIST x8 x2 x3 x7 x9 z8 z2 z3 z7 z9
        go_wp2
        go_roundw
        case rel => exact ⟨k + 1, by omega, by go_num, by rw [H.out.1], H.out.2.1, H.out.2.2⟩
        case measure => simp [intOf]; omega
      | true =>
        have hs0 := HIST.out rfl
        obtain ⟨fd, hfd⟩ : ∃ fd, decide (0 < hst0) = fd := ⟨_, rfl⟩
        rw [hfd]
        by_cases hgt : hst0 < stamp
        · have t1 : decide ((hst0 : Int) < (stamp : Int)) = true := by rw [decide_eq_true_iff]; omega
          have H := Lib.hid (N2.out ⟨rfl, hgt⟩)
          have HP : Hid (decide (0 < (findK D (k + 1)).1.stamp) = true) := Lib.hid (decide_eq_true H.out.1)
          clear N1 N2 HIST hs0 hfd
          cases fd
          all_goals
            go_wp2
            go_roundw
            case rel => exact ⟨k + 1, by omega, by go_num, by rw [HP.out], H.out.2.1, H.out.2.2⟩
            case measure => simp [intOf]; omega
        · have t1 : decide ((hst0 : Int) < (stamp : Int)) = false := by rw [decide_eq_false_iff_not]; omega
          have H := Lib.hid (N1.out (fun q => hgt q.2))
          have hft : fd = true := by rw [← hfd]; exact decide_eq_true (by omega)
          have HP : Hid (decide (0 < (findK D (k + 1)).1.stamp) = true) := Lib.hid (decide_eq_true (by rw [H.out.1]; omega))
          clear N1 N2 HIST hs0 hfd
          subst hft
          go_wp2
          go_roundw
          case rel => exact ⟨k + 1, by omega, by go_num, by rw [HP.out], H.out.2.1, H.out.2.2⟩
          case measure => simp [intOf]; omega
    · obtain rfl : k = 2 := by omega
      have e1 : decide ((2 : Int) < 2) = false := by decide
      rw [findK_two] at hd ⊢
      rw [show ((2 : Nat) : Int) = 2 from rfl]
      obtain ⟨w3, hw3⟩ : ∃ w3, wr = w3 := ⟨_, rfl⟩
      subst hw3
      have hz := HGE.out
      have hwO : Only F w wr := (Only.of_below HB2.out F).trans hO fun b e => .inr (by have := HGL.out; omega)
      rcases Nat.eq_zero_or_pos (findP D).1.stamp with hst | hst
      · have F1 : Hid (ROpen8Post D F (.pointer (some ⟨gp, 0, none⟩)) w (.returned (.tuple #[.pointer none, .int .i64 82])) wr) := Lib.hid (.inl ⟨by unfold opens; rw [hst]; simp, rfl, HB2.out.trans (hO.below HB2.out.size fun b q => by have := HGL.out; omega)⟩)
        rw [hst]
        clear hd hO hst hwO h2D
        go_wp2
        go_ret2
        exact F1.out
      have hop : opens D = true := by unfold opens; rw [decide_eq_true HGE.out, decide_eq_true hst]; rfl
      have hgr := HGR.out hop
      obtain ⟨hmay, hslot⟩ := findP_may HSM.out hst
      have hL : openL D = ⟨(findP D).1, (D.size 0 - 2) / 2, (findP D).2, (openR D).flatMap encL, offs 0 (openR D), ((openR D).flatMap encL).length⟩ := rfl
      have hD : openD D = makeP D (2 + (findP D).1.area * ((D.size 0 - 2) / 2)) ((D.size 0 - 2) / 2) (layOf ((openR D).flatMap encL)) := rfl
      have hR : openR D = recsOf (readL (areaP D (2 + (findP D).1.area * ((D.size 0 - 2) / 2)) ((D.size 0 - 2) / 2))) := rfl
      have hlen := open_len HSM.out
      rw [decide_eq_true hst]
      generalize findP D = fp at *
      obtain ⟨⟨stamp, base, check, area⟩, slot⟩ := fp
      simp only at *
      rw [HS.out] at hL hD hR hlen
      obtain ⟨p0, hp0⟩ : ∃ p0, 2 + area * s = p0 := ⟨_, rfl⟩
      rw [hp0] at hD hR
      have hp3 : p0 ≤ 3000 := by
        have h1 := hmay.area
        simp only at h1
        have h2 : area * s ≤ 1 * 62 := Nat.mul_le_mul (by omega) hs62
        omega
      have HOP := Lib.hid hop
      have HLL := Lib.hid hL
      have HDD := Lib.hid hD
      have HRR := Lib.hid hR
      have HMAY := Lib.hid hmay
      have HP0 := Lib.hid hp0
      have HWO := Lib.hid hwO
      have HL3 := Lib.hid hd
      have HGOOD := Lib.hid hgr
      have HGW : Hid (w.heap.size ≤ gl ∧ gl < wr.heap.size) := Lib.hid ⟨by have := HGL.out; omega, hd.log.blk.lt⟩
      clear hL hD hR hmay hp0 hwO hop hst hslot hd hO h2D hgr HGR hz
      generalize hwq : wr = w3 at *
      go_wp2_with fail
      go_loopw [15, 16, 17, 18] (fun v15 v16 _ _ wr => ∃ (i : Nat) (Lv : List Value), i ≤ s ∧ v16 = .int .i64 (i : Nat) ∧ wr.ownsRow w3.heap.size 45 1 v15 i Lv ∧ Rows wr w3.heap.size Lv ((areaP D p0 s).take i) ∧ Below w3.heap.size w3 wr) (fun _ v16 _ _ _ => s - (intOf v16).toNat)
      case atStart => exact ⟨0, [], Nat.zero_le _, rfl, World.ownsRow_nil _ _ _ _, by rw [List.take_zero]; exact Rows.nil _ _, Below.refl _ _⟩
      case round =>
        obtain ⟨i, Lv, hi, rfl, hown, hr, hb⟩ := hrel
        rename World => wr
        obtain ⟨A0, c0, rfl, -, -⟩ := own_form hown
        have hLr := HL3.out.below hb
        have kr := hLr.log.blk
        have c1 : wr.cell? ⟨gl, 1, none⟩ = some (.int .i64 (s : Nat)) := kr.cell 1
        rcases Nat.lt_or_ge i s with hlt | hge
        · have e1 : decide ((i : Int) < (s : Int)) = true := by rw [decide_eq_true_iff]; omega
          obtain ⟨q, hq⟩ : ∃ q, p0 + i = q := ⟨_, rfl⟩
          have V1 : Hid (IntKind.i64.wrap ((p0 : Int) + (i : Int)) = (q : Int)) := Lib.hid (by rw [IntKind.wrap_i64]; omega)
          have c3 : wr.cell? ⟨gl, 2, none⟩ = some (.int .i64 (area : Nat)) := kr.cell 2
          have cf := rfirst_any kr (by show s ≤ 100000; omega) area HMAY.out.area
          rw [show 2 + area * s = p0 from HP0.out] at cf
          have crd := rread_any hLr.dev hG (by omega) 0 (by omega) (q : Int)
          have hAr : (areaP D p0 s)[i]? = some (D.read 0 (q : Int)).1 := by
            unfold areaP
            rw [List.getElem?_map, List.getElem?_range hlt, Option.map_some, hq]
          have htk : (areaP D p0 s).take (i + 1) = (areaP D p0 s).take i ++ [(D.read 0 (q : Int)).1] := by
            obtain ⟨h1, h2⟩ := List.getElem?_eq_some_iff.1 hAr
            rw [List.take_succ_eq_append_getElem h1, h2]
          generalize (D.read 0 (q : Int)).1 = lr at *
          generalize (D.read 0 (q : Int)).2 = nr at *
          have HTK := Lib.hid htk
          clear hq hLr kr hAr htk
          have v1 := V1.out
          go_wp2_with fail
          refine cf.mono ?_
          rintro e w5 ⟨rfl, rfl⟩
          clear cf
          go_wp2_with fail
          refine crd.mono ?_
          rintro e w6 ⟨A6, c6, rfl, ho6, hb6, hs6⟩
          have hown2 := kept_none (below_none hb6) hown
          have hr2 := hr.grown (w' := w6) ⟨hb6.os, hb6.tape, hb6.output, hb6.size, fun j hj _ => hb6.block j hj⟩
          have hb3 := hb.trans (hb6.mono hb.size)
          have hrow := own_base (b' := w3.heap.size) hb.size ho6
          have hsz := hb3.size
          have NEWR : Hid (∀ w4 A1 c1, w4.ownsRow w3.heap.size 45 1 (.slice A1 (i + 1) c1) (i + 1) (Lv ++ [.slice A6 lr.length c6]) → (w6.alloc (.cells #[.slice A6 lr.length c6] 45 (0, 0))).grownBy w4 (Value.slice A0 i c0).ownBlock → Rows w4 w3.heap.size (Lv ++ [.slice A6 lr.length c6]) ((areaP D p0 s).take (i + 1)) ∧ Below w3.heap.size w3 w4) := Lib.hid fun w4 A1 c1 ho4 hg4 => by
            have hag := World.grownBy_alloc w6 (.cells #[.slice A6 lr.length c6] 45 (0, 0)) none
            have k5 : ∀ (u : Value) (m : List Nat), w6.ownsRow w3.heap.size 5 1 u m.length (m.map byteV) → w4.ownsRow w3.heap.size 5 1 u m.length (m.map byteV) := fun u m hu =>
              (hu.kept hag (by cases h : u.ownBlock <;> simp)).kept hg4 (own_apart (by decide) hu hown2)
            refine ⟨?_, ?_⟩
            · rw [HTK.out]
              exact (hr2.imp k5).snoc ⟨⟨_, _, rfl⟩, k5 _ _ hrow, hs6⟩
            · exact below_own (v := .slice A0 i c0) (hb3.alloc hsz _) hg4 (hown2.kept hag (by cases h : (Value.slice A0 i c0).ownBlock <;> simp)) (Nat.le_refl _) (by rw [World.size_alloc]; omega)
          clear crd hr hb hown hb6 ho6 hb3 hrow hr2 v1 c3 c1
          go_wp2_with (at_builtin; refine wpList_append_at rfl _ _ 22 rfl w3.heap.size 45 i1 _ 24 Tryz.underlying22 hi1 hy0 hy1 hy2 rfl (.slice A0 i c0) i Lv rfl ?own (w6.heap.size + 1) (some ⟨w6.heap.size, 0, none⟩) 1 1 [.slice A6 lr.length c6] rfl rfl (At.new w6 [.slice A6 lr.length c6] 45 (0, 0)) (by simp [Value.oneCell']) (by unfold maxLen; omega) (by omega) (by rw [World.size_alloc]; omega) ?_; (case own => exact hown2.kept (World.grownBy_alloc _ _ none) (by cases h : (Value.slice A0 i c0).ownBlock <;> simp)); intro A1 c1 w4 hown4 hg4 hat4)
          have HN4 := Lib.hid (NEWR.out w4 A1 c1 hown4 hg4)
          have ho4 := Lib.hid hown4
          clear hown4 hat4 hg4 NEWR
          go_roundw
          case rel => exact ⟨i + 1, _, by omega, by go_num, ho4.out, HN4.out.1, HN4.out.2⟩
          case measure => simp [intOf]; omega
        · have his : i = s := by omega
          subst his
          have e1 : decide ((i : Int) < (i : Int)) = false := by rw [decide_eq_false_iff_not]; omega
          rw [List.take_of_length_le (by rw [area_length]; exact Nat.le_refl _)] at hr
          have csr := refst_any A0 c0 Lv (areaP D p0 i) wr.heap.size wr (At.own hown) hr.reads (Nat.le_refl _) (by rw [area_length]; omega)
          rw [area_length] at csr
          have HLr := Lib.hid hLr
          have HBr := Lib.hid hb
          have hra : recsOf (readL (areaP D p0 i)) = openR D := HRR.out.symm
          have hal := readL_length (areaP D p0 i)
          rw [area_length] at hal
          generalize readL (areaP D p0 i) = all at *
          clear hr hown hb hLr kr hi
          go_wp2_with fail
          refine csr.mono ?_
          rintro e w5 ⟨A5, c5, rfl, ho5, hb5, hs5⟩
          have HL5 := Lib.hid (HLr.out.below hb5)
          obtain ⟨nA, hnA⟩ : ∃ nA, all.length = nA := ⟨_, rfl⟩
          rw [hnA] at ho5 hal ⊢
          have hcA := own_cap ho5
          have HNA := Lib.hid hnA
          have HO5 := Lib.hid ho5
          have HB5 : Hid (Below w3.heap.size w3 w5) := Lib.hid (HBr.out.trans (hb5.mono HBr.out.size))
          have hnb : nA ≤ 7900 := by omega
          have HRA := Lib.hid hra
          clear csr hb5 ho5 hnA hal c1 e1 hra
          go_wp2_with fail
          go_loopw [20, 21, 22, 23] (fun v20 _ _ _ wr => ∃ (rs' : List RecP) (rest : List Nat) (G' : Nat → Prop) (st' : Value), GoodR rs' ∧ all = rs'.flatMap encL ++ rest ∧ v20 = .int .i64 ((rs'.flatMap encL).length : Nat) ∧ RLg ⟨⟨stamp, base, check, area⟩, i, slot, [], offs 0 rs', 0⟩ D wr F G' gl (.pointer (some ⟨gp, 0, none⟩)) (.slice none 0 0) st' ∧ (∀ b, G' b → b = gl ∨ w5.heap.size ≤ b) ∧ Only (fun b => b = gl) w5 wr) (fun v20 _ _ _ _ => nA - (intOf v20).toNat)
          case atStart => exact ⟨[], all, fun b => b = gl, .slice none 0 0, (fun r hr => by cases hr), rfl, rfl, HL5.out, fun b e => .inl e, Only.refl _ _⟩
          case round =>
            obtain ⟨rs', rest, G', st', hgood, hall, rfl, hL6, hG6, hO6⟩ := hrel
            rename World => w6
            have hxl : (rs'.flatMap encL).length + rest.length = nA := by rw [← HNA.out, hall, List.length_append]
            have hdrop : all.drop (rs'.flatMap encL).length = rest := by rw [hall]; exact List.drop_left' rfl
            obtain ⟨x, hx⟩ : ∃ x, (rs'.flatMap encL).length = x := ⟨_, rfl⟩
            rw [hx] at hxl hdrop ⊢
            have b1 : (0 : Int) ≤ (x : Int) := by omega
            have b2 : (x : Int) ≤ (nA : Int) := by omega
            have hb6 : Bytes w6 w6.heap.size A5 all := by
              have how := HO5.out
              have hO := hO6.own how fun b e e' => by
                have h1 := (how.lt b e).1
                have h2 := HGW.out.2
                have h3 := HBr.out.size
                omega
              exact own_bytes hO hs5
            have hbs := bytes_sliced hb6 (x := x) (c := c5) (by rw [HNA.out]; exact hcA)
            rw [hdrop] at hbs
            have hfits : ∀ r, decR rest = some r → r.Fits := fun r hr => by
              refine (HGOOD.out r ?_).2
              rw [← HRA.out, hall, recsOf_enc hgood, recsOf_some hr]
              exact List.mem_append_right _ (List.mem_cons_self ..)
            have CD : Hid (∀ A' c', Bytes w6 w6.heap.size A' rest → nA - x ≤ c' → Calls Tryz.prog 36 #[.slice A' (nA - x) c'] w6 fun e w' => Below w6.heap.size w6 w' ∧ ∃ (r : RecP) (m : RecMm) (n no : Nat), e = .returned (.tuple #[.agg (recA r m), .int .i64 (n : Nat), .int .i64 (no : Nat)]) ∧
              ((no ≠ 0 ∧ no < 100 ∧ decR rest = none) ∨ (no = 0 ∧ n = decN rest ∧ decR rest = some r ∧ r.Fits))) := Lib.hid fun A' c' hA hc' => by
              have := rdecode_loop (c := c') hA (by omega) (by omega) hfits
              rw [show rest.length = nA - x by omega] at this
              refine this.mono ?_
              rintro e w' ⟨h1, r, m, n, no, h2, h3⟩
              refine ⟨h1, r, m, n, no, h2, ?_⟩
              rcases h3 with h3 | ⟨h4, h5, h6, h7⟩
              · exact .inl h3
              · exact .inr ⟨h4, h5, h6, h7.at_.fits⟩
            have HL6 := Lib.hid hL6
            have HO6 := Lib.hid hO6
            have HX := Lib.hid hx
            clear hL6 hO6 hb6 hdrop hx hfits
            go_upto_region 27 with fail
            go_cut [22, 23] from 111 to 133 (fun v10 v11 wx => ∃ (r : RecP) (m : RecMm) (n no : Nat), v10 = .int .i64 (n : Nat) ∧ v11 = .int .i64 (no : Nat) ∧ ((no ≠ 0 ∧ no < 100 ∧ decR rest = none) ∨ (no = 0 ∧ n = decN rest ∧ decR rest = some r ∧ r.Fits)) ∧ Below w6.heap.size w6 wx)
            case first =>
              go_wp2_with fail
              all_goals
                first | (have hcx : c5 = x := h; subst hcx) | skip
                refine (CD.out _ _ (by first | (rw [if_pos rfl] at hbs; exact hbs) | (rw [if_neg (by assumption)] at hbs; exact hbs)) (by omega)).mono ?_
                rintro e w7 ⟨hb7, r, m, n, no, rfl, hcond⟩
                have hst := store_rec_new w7 r m
                have hb8 := hb7.trans ((below_alloc w7 (.cells (recA r m) 51)).mono hb7.size)
                have HC := Lib.hid (And.intro hcond hb8)
                clear hcond hb8 hb7 hbs CD b1 b2
                go_wp2_with (refine wpList_store_run rfl 51 (.tmp 21) (.tmp 116) _ _ rfl rfl rfl hst ?_; clear hst)
                go_meet
                case rel => exact ⟨r, m, n, no, rfl, rfl, HC.out.1, HC.out.2⟩
            case rest =>
              rename World => w7
              obtain ⟨r, m, n, no, rfl, rfl, hcond, hb7⟩ := hcut
              clear hbs CD b1 b2
              have hL7 := HL6.out.below hb7
              rcases hcond with ⟨hno, hno2, hdn⟩ | ⟨rfl, rfl, hds, hfit⟩
              · have t1 : ((no : Int) != 0) = true := by rw [bne_iff_ne]; omega
                have hrs : openR D = rs' := by rw [← HRA.out, hall, recsOf_enc hgood, recsOf_none hdn, List.append_nil]
                have hxn : x ≤ nA := by omega
                have hstm : (rs'.flatMap encL).length = x := HX.out
                have htake : all.take x = rs'.flatMap encL := by rw [hall]; exact List.take_left' hstm
                have hXF : ∀ b, (Value.slice A5 x c5).ownBlock = some b → ¬ F b ∧ w3.heap.size ≤ b ∧ b < w5.heap.size := fun b e => by
                  have h1 := (HO5.out.lt b (by rw [← e]; cases A5 <;> rfl))
                  have h3 := HBr.out.size
                  exact ⟨fun q => by have := HL3.out.hiF b q; omega, by omega, h1.2⟩
                have ho7 : w7.ownsRow wr.heap.size 5 1 (.slice A5 nA c5) nA (all.map byteV) := (HO6.out.trans (Only.of_below hb7 (fun _ => False)) fun b q => q.elim : Only (fun b => b = gl) w5 w7).own HO5.out fun b e e' => by
                    have h1 := (HO5.out.lt b e).1
                    have h2 := HGW.out.2
                    have h3 := HBr.out.size
                    omega
                have htx := own_base (b' := 0) (Nat.zero_le _) (own_take ho7 hxn)
                rw [← List.map_take] at htx
                have hlt : (all.take x).length = x := by rw [htake, hstm]
                obtain ⟨hL8, hO8⟩ := hL7.setStream htx hlt (fun y hy => hs5 y (List.mem_of_mem_take hy)) fun b e => ⟨(hXF b e).1, by
                  have h1 := (hXF b e).2.2
                  have h2 := HO6.out.size
                  have h3 := hb7.size
                  exact Nat.lt_of_lt_of_le h1 (Nat.le_trans h2 h3)⟩
                obtain ⟨hL9, hO9⟩ := hL8.lasts x
                have c6' : w7.cell? ⟨gl, 6, none⟩ = some (.int .i64 0) := hL7.log.blk.cell 6
                have c4' : w7.cell? ⟨gl, 4, none⟩ = some (.slice none 0 0) := hL7.log.blk.cell 4
                have z4' : w7.frozen? ⟨gl, 4, none⟩ = false := hL7.log.blk.frozen 4
                have z6' : w7.frozen? ⟨gl, 6, none⟩ = false := hL7.log.blk.frozen 6
                have d1 : (0 : Int) ≤ (x : Int) := by omega
                have d2 : (x : Int) ≤ (c5 : Int) := by omega
                have d3 : (nA : Int) ≤ (c5 : Int) := by omega
                obtain ⟨w8, hw8⟩ : ∃ w8, (w7.setCell ⟨gl, 4, none⟩ (.slice A5 x c5)).setCell ⟨gl, 6, none⟩ (.int .i64 (x : Nat)) = w8 := ⟨_, rfl⟩
                rw [hw8] at hL9 hO9
                have h78 : w7.heap.size ≤ w8.heap.size ∧ Only (fun b => b = gl) w7 w8 := ⟨Nat.le_trans hO8.size hO9.size, hO8.trans hO9 fun b q => .inl q⟩
                have HL9 := Lib.hid hL9
                have H78 := Lib.hid h78
                have HXF := Lib.hid hXF
                have HW8 := Lib.hid hw8
                clear hL8 hO8 htx ho7 hXF hL7 hall hL9 hO9 h78 hw8
                go_upto_region 33 with fail
                rw [show _ = w8 from HW8.out]
                clear c4' c6' z4' z6' d1 d2 d3 HW8
                have hL8 := HL9.out
                have bd := below_drew0 w8
                have k8 := hL8.log.blk
                have hgl8 := k8.lt
                have CELLS : Hid (∀ W', Only F w8 W' → W'.cell? ⟨gl, 2, none⟩ = some (.int .i64 (area : Nat)) ∧ W'.cell? ⟨gl, 1, none⟩ = some (.int .i64 (i : Nat)) ∧ W'.cell? ⟨gl, 4, none⟩ = some (.slice A5 x c5)) := Lib.hid fun W' ho => by
                  have k := k8.only ho fun q => hL8.dis gl q hL8.log.inG
                  exact ⟨k.cell 2, k.cell 1, k.cell 4⟩
                have FI : Hid (∀ W, Below w8.heap.size w8 W → Calls Tryz.prog 34 #[.pointer (some ⟨gl, 0, none⟩), .int .i64 (area : Nat)] W fun e w' => e = .returned (.int .i64 (p0 : Int)) ∧ W = w') := Lib.hid fun W hW => by
                  have := rfirst_any (k8.below hW hgl8) (by show i ≤ 100000; omega) area HMAY.out.area
                  rw [show 2 + area * i = p0 from HP0.out] at this
                  exact this
                have hb8 : Bytes w8 w8.heap.size A5 (all.take x) := by
                  obtain ⟨A1, c1, e, _, hb⟩ := hL8.log.bytes
                  injection e with e1 _ _
                  rw [e1]
                  exact hb
                have cl := reflay_any A5 c5 (all.take x) w8.drew.heap.size w8.drew hb8 (Nat.le_refl _) (by rw [hlt]; omega)
                rw [hlt] at cl
                have hll := layOf_length' (all.take x)
                have hcb : chunks (all.take x) ≤ 701 := by unfold chunks; rw [hlt]; omega
                have h128 := lay_128 (all.take x)
                have hDD : openD D = makeP D p0 i (layOf (all.take x)) := by rw [HDD.out, hrs, htake]
                have MK : Hid (∀ W A9 c9 L9, Below w8.heap.size w8 W → W.ownsRow w8.drew.heap.size 45 1 (.slice A9 (layOf (all.take x)).length c9) (layOf (all.take x)).length L9 → Rows W w8.drew.heap.size L9 (layOf (all.take x)) → Calls Tryz.prog 37 #[.pointer (some ⟨gl, 0, none⟩), .int .i64 (p0 : Int), .int .i64 (i : Int), .slice A9 (layOf (all.take x)).length c9] W fun e w' => e = .returned (.tuple #[]) ∧ RPost (openD D) F (.pointer (some ⟨gp, 0, none⟩)) W w') := Lib.hid fun W A9 c9 L9 hW ho hr => by
                  have hLW := hL8.below hW
                  obtain ⟨q1, q2⟩ := rows_outs (w := w8.drew) (F := F) hL8.hiF ho hr
                  have := rlay_any hLW.dev hLW.hiF hG hLW.log.blk (fun q => hLW.dis gl q hLW.log.inG) p0 i (by omega) (by omega) (by omega) A9 c9 L9 (layOf (all.take x)) q1 q2 (by rw [hll]; omega) h128
                  rw [← hDD] at this
                  exact this
                have FIN : Hid (∀ w9 wx, Below w8.heap.size w8 w9 → RPost (openD D) F (.pointer (some ⟨gp, 0, none⟩)) w9 wx → ROpen8Post D F (.pointer (some ⟨gp, 0, none⟩)) w (.returned (.tuple #[.pointer (some ⟨gl, 0, none⟩), .int .i64 0])) wx) := Lib.hid fun w9 wx h9 hp => by
                  have s1 := HWO.out.size
                  have s2 := HB5.out.size
                  have s3 := HO6.out.size
                  have s4 := hb7.size
                  have s5 := H78.out.1
                  have s6 := h9.size
                  have s7 := hp.2.size
                  have hgw := HGW.out
                  refine .inr ⟨HOP.out, gl, rfl, ?_⟩
                  have hL9 := (hL8.below h9).devPost hp
                  have eL : openL D = ⟨⟨stamp, base, check, area⟩, i, slot, all.take x, offs 0 rs', x⟩ := by rw [HLL.out, hrs, htake, hstm]
                  rw [eL]
                  have o1 : Only (fun b => F b ∨ False) w w3 := HWO.out.mono fun b q => .inl (.inl q)
                  have o2 : Only (fun b => F b ∨ False) w w5 := o1.trans (Only.of_below HB5.out (fun _ => False)) fun b q => q.elim
                  have o3 : Only (fun b => F b ∨ False) w w6 := o2.trans HO6.out fun b q => .inr (by omega)
                  have o4 : Only (fun b => F b ∨ False) w w7 := o3.trans (Only.of_below hb7 (fun _ => False)) fun b q => q.elim
                  have o5 : Only (fun b => F b ∨ False) w w8 := o4.trans H78.out.2 fun b q => .inr (by omega)
                  have o6 : Only (fun b => F b ∨ False) w w9 := o5.trans (Only.of_below h9 (fun _ => False)) fun b q => q.elim
                  refine ⟨_, _, _, _, hL9, fun b q => ?_, fun b q => ?_, o6.trans hp.2 fun b q => .inl (.inl q)⟩
                  · rcases q with q | q
                    · exact .inl q
                    · exact .inr ⟨by omega, q.2⟩
                  · have hb := hL9.hiG b q
                    refine .inr ⟨?_, hb⟩
                    rcases q with q | q
                    · rcases hG6 b q with z | z
                      · omega
                      · omega
                    · have := (HXF.out b q).2.1
                      omega
                have x0 := CELLS.out w8.drew (Only.of_below bd _)
                have cf0 := FI.out w8.drew bd
                have hcx : (layOf (all.take x)).length = (layOf (all.take x)).length := rfl
                have HCL : Hid (Calls Tryz.prog 38 #[.slice A5 x c5] w8.drew fun e w' => ∃ A9 c9, e = .returned (.slice A9 (layOf (all.take x)).length c9) ∧ Below w8.heap.size w8 w' ∧ Calls Tryz.prog 37 #[.pointer (some ⟨gl, 0, none⟩), .int .i64 (p0 : Int), .int .i64 (i : Int), .slice A9 (layOf (all.take x)).length c9] w' fun e w' => e = .returned (.tuple #[]) ∧ ∃ w9, w9 = w' ∧ True) := Lib.hid (by
                  refine cl.mono ?_
                  rintro e w9 ⟨A9, c9, L9, rfl, ho9, hr9, hb9⟩
                  have bl := bd.trans (hb9.mono bd.size)
                  exact ⟨A9, c9, rfl, bl, (MK.out w9 A9 c9 L9 bl ho9 hr9).mono fun e w' h => ⟨h.1, w', rfl, trivial⟩⟩)
                clear HCL hcx
                have cl2 : Calls Tryz.prog 38 #[.slice A5 x c5] w8.drew fun e w9 => ∃ A9 c9, e = .returned (.slice A9 (layOf (all.take x)).length c9) ∧ Below w8.heap.size w8 w9 ∧ Calls Tryz.prog 37 #[.pointer (some ⟨gl, 0, none⟩), .int .i64 (p0 : Int), .int .i64 (i : Int), .slice A9 (layOf (all.take x)).length c9] w9 fun e w' => e = .returned (.tuple #[]) ∧ RPost (openD D) F (.pointer (some ⟨gp, 0, none⟩)) w9 w' := by
                  refine cl.mono ?_
                  rintro e w9 ⟨A9, c9, L9, rfl, ho9, hr9, hb9⟩
                  have bl := bd.trans (hb9.mono bd.size)
                  exact ⟨A9, c9, rfl, bl, MK.out w9 A9 c9 L9 bl ho9 hr9⟩
                clear cl MK
                generalize (layOf (all.take x)).length = nq at *
                clear hb8 hlt hll hcb h128 hDD hL8 k8 hb7 hgood hs5 htake hstm hxn hrs hdn hxl hcA hG6
                go_cut [] (fun wx => ∃ w9, Below w8.heap.size w8 w9 ∧ RPost (openD D) F (.pointer (some ⟨gp, 0, none⟩)) w9 wx)
                case first =>
                  go_wp2_with fail
                  go_region_held3 (fun W' => W'.cell? ⟨gl, 2, none⟩ = some (.int .i64 (area : Nat)) ∧ W'.cell? ⟨gl, 1, none⟩ = some (.int .i64 (i : Nat)) ∧ W'.cell? ⟨gl, 4, none⟩ = some (.slice A5 x c5))
                    (first | with_reducible (exact x0) | with_reducible (exact x1) | with_reducible (exact x2) | fail)
                    (first
                      | ((with_reducible refine cf0.mono ?_); rintro e wq ⟨rfl, rfl⟩)
                      | ((with_reducible refine cf1.mono ?_); rintro e wq ⟨rfl, rfl⟩)
                      | ((with_reducible refine cl2.mono ?_); rintro e w9 ⟨A9, c9, rfl, bl, cm⟩; have x1 := CELLS.out w9 (Only.of_below bl _); have cf1 := FI.out w9 bl)
                      | ((with_reducible refine cm.mono ?_); rintro e w10 ⟨rfl, hp10⟩; have x2 := CELLS.out w10 ((Only.of_below bl _).trans hp10.2 fun b z => .inl z); have H10 := Lib.hid hp10)
                      | fail)
                  all_goals
                    go_wp2
                    go_meet
                    case rel => exact ⟨w9, bl, H10.out⟩
                case rest =>
                  rename World => wx
                  obtain ⟨w9, h9, hp9⟩ := hcut
                  have H := Lib.hid (FIN.out w9 wx h9 hp9)
                  clear FIN FI CELLS cl2 cf0 x0 h9 hp9 bd
                  go_wp2
                  go_ret2
                  exact H.out
              · have hsr : Small rest := fun y hy => hs5 y (by rw [hall]; exact List.mem_append_right _ hy)
                obtain ⟨hok, hdn, hre⟩ := decR_enc hds hsr
                have h27 := encL_len hok
                obtain ⟨ny, hny⟩ : ∃ ny, decN rest = ny := ⟨_, rfl⟩
                rw [hny] at hdn hre ⊢
                have hle : ny ≤ rest.length := by rw [← hny]; exact (decR_some hds).2.2.1
                obtain ⟨y, hy⟩ : ∃ y, x + ny = y := ⟨_, rfl⟩
                have V1 : Hid (IntKind.i64.wrap ((x : Int) + (ny : Int)) = (y : Int)) := Lib.hid (by rw [IntKind.wrap_i64]; omega)
                obtain ⟨As, cs, rfl, hcs, -⟩ := hL7.log.places
                have st7 := hL7.log.strt
                simp only at st7 hL7
                rw [offs_length] at hL7 st7
                obtain ⟨k, hk⟩ : ∃ k, rs'.length = k := ⟨_, rfl⟩
                rw [hk] at hL7 st7
                have HL7 := Lib.hid hL7
                have HK : Hid ((offs 0 rs').length = k) := Lib.hid (by rw [offs_length]; exact hk)
                have hkb : k ≤ 90000 := by
                  have h1 := offK_mono hgood (Nat.zero_le rs'.length) (Nat.le_refl _)
                  rw [offK_all rs' (Nat.le_refl _), HX.out, offK_zero] at h1
                  omega
                have NEW : Hid (GoodR (rs' ++ [r]) ∧ all = (rs' ++ [r]).flatMap encL ++ rest.drop ny ∧ ((rs' ++ [r]).flatMap encL).length = y ∧ offs 0 (rs' ++ [r]) = offs 0 rs' ++ [x]) := Lib.hid ⟨fun z hz => by
                    rcases List.mem_append.1 hz with q | q
                    · exact hgood z q
                    · rw [List.mem_singleton.1 q]; exact ⟨hok, hfit⟩, by rw [List.flatMap_append, List.append_assoc]; simp only [List.flatMap_cons, List.flatMap_nil, List.append_nil]; rw [← hre]; exact hall, by rw [List.flatMap_append, List.length_append, HX.out]; simp only [List.flatMap_cons, List.flatMap_nil, List.append_nil]; omega, by rw [offs_snoc, HX.out, Nat.zero_add]⟩
                have c5' : w7.cell? ⟨gl, 5, none⟩ = some (.slice As k cs) := HL7.out.log.blk.cell 5
                have b8 : Below w7.heap.size w7 (w7.alloc (.cells #[.int .i64 (x : Int)] 3)) := below_alloc w7 (.cells #[.int .i64 (x : Int)] 3)
                have k8 : (w7.alloc (.cells #[.int .i64 (x : Int)] 3)).ownsRow 0 3 1 (.slice As k cs) k (placeV (offs 0 rs')) := kept_below b8 st7
                have hxy : x < y ∧ y ≤ nA := by omega
                have FIN2 : Hid (∀ A6 c6 w9, RLg ⟨⟨stamp, base, check, area⟩, i, slot, [], offs 0 rs' ++ [x], 0⟩ D w9 F (grow G' w7 w9) gl (.pointer (some ⟨gp, 0, none⟩)) (.slice none 0 0) (.slice A6 (k + 1) c6) → Only G' w7 w9 → RLg ⟨⟨stamp, base, check, area⟩, i, slot, [], offs 0 (rs' ++ [r]), 0⟩ D w9 F (grow G' w7 w9) gl (.pointer (some ⟨gp, 0, none⟩)) (.slice none 0 0) (.slice A6 (k + 1) c6) ∧ (∀ b, grow G' w7 w9 b → b = gl ∨ w5.heap.size ≤ b) ∧ Only (fun b => b = gl) w5 w9) := Lib.hid fun A6 c6 w9 h1 h2 => by
                  have s1 := HO6.out.size
                  have s2 := hb7.size
                  refine ⟨by rw [NEW.out.2.2.2]; exact h1, fun b q => ?_, ?_⟩
                  · rcases q with q | q
                    · exact hG6 b q
                    · exact .inr (by omega)
                  · exact (HO6.out.trans (Only.of_below hb7 (fun _ => False)) fun b q => q.elim).trans h2 fun b q => hG6 b q
                clear hL7 st7 hcs hgood hall hsr hok hdn hre hny hle hy hk hds hfit h27
                have v1 := V1.out
                go_wp2_with (at_builtin; refine wpList_append_at rfl _ _ 80 rfl 0 3 i0 _ 8 Tryz.underlying80 hi0 hz0 hz1 hz2 rfl (.slice As k cs) k (placeV (offs 0 rs')) rfl k8 (w7.heap.size + 1) (some ⟨w7.heap.size, 0, none⟩) 1 1 [.int .i64 (x : Int)] rfl rfl (At.new w7 [.int .i64 (x : Int)] 3 (0, 0)) (by simp [Value.oneCell']) (by unfold maxLen; omega) (by omega) (Nat.zero_le _) ?_; intro A6 c6 w8 ho6 hg6 hat6; have hP := RLg.place (x := x) HL7.out b8 HK.out ho6 hg6 hat6; have s8 : w8.cell? ⟨gl, 5, none⟩ = some (.slice As k cs) := hP.1.cell 5; have z8 : w8.frozen? ⟨gl, 5, none⟩ = false := hP.1.frozen 5; have HP := Lib.hid (FIN2.out A6 c6 _ hP.2.1 hP.2.2); clear hP ho6 hg6 hat6 FIN2)
                go_roundw
                case rel => exact ⟨rs' ++ [r], rest.drop ny, _, _, NEW.out.1, NEW.out.2.1, by rw [NEW.out.2.2.1], HP.out.1, HP.out.2.1, HP.out.2.2⟩
                case measure => simp [intOf]; omega
end Go.Proofs.YtkganajbilnanaaGreat
