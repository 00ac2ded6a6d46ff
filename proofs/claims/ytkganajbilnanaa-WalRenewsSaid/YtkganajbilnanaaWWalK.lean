/- wal: make. Conditions: the device lies there; what is wanted lies outside it. -/
import Derived.Test.YtkganajbilnanaaWWalO
import Derived.Test.YtkganajbilnanaaWWalE
namespace Go.Proofs.Ytkganajbilnanaa
open Go.ChangeShapes Go.WideShapes Go.ChangeAt Go.RowKit
open NumMath
set_option linter.unusedVariables false
set_option linter.unusedSimpArgs false
set_option maxRecDepth 20000

theorem zsec_small : Small zsec := replicate_small 128
theorem zsec_length : zsec.length = 128 := List.length_replicate
theorem makeN_next (D : DevP) (p : Nat) (want : List (List Nat)) (i : Nat) : makeN D p want (i + 1) = (if ((makeN D p want i).1.read 0 ((p + i : Nat) : Int)).1 = wantAt want i then makeN D p want i else (((makeN D p want i).1.write 0 ((p + i : Nat) : Int) (wantAt want i)).2, true)) := rfl
set_option maxHeartbeats 8000000 in
theorem make_any {D : DevP} {w : World} {F : Nat → Prop} {pd : Value} (h : IsDev D w F pd) (hF : ∀ b, F b → b < w.heap.size) {N : Nat} (hG : D.good N) {gl : Nat} {lh : HeadP} {strips slot lasts : Nat} {sv st : Value}
    (kb : Blk w gl 75 (logV lh pd strips slot sv st lasts)) (hgl : ¬ F gl) (p n : Nat) (hp : p ≤ 100000) (hn : n ≤ 100000) (hN : N + n ≤ 100000) (A : Option Addr) (c : Nat) (Lw : List Value) (want : List (List Nat)) (hA : AtIn w (fun b => ¬ F b) A Lw) (hw : Outs w F Lw want) (hwl : want.length ≤ 100000) (h128 : ∀ l ∈ want, l.length = 128) :
    Calls Try.prog 42 #[.pointer (some ⟨gl, 0, none⟩), .int .i64 (p : Nat), .int .i64 (n : Nat), .slice A want.length c] w fun e w' => e = .returned (.tuple #[]) ∧ DevPost (makeP D p n want) F pd w w' := by
  obtain ⟨i0, hi0, hz0, hz1, hz2⟩ := info_parts u8_info
  obtain ⟨gp, s0, lv0, X0, rfl, -⟩ := id h
  obtain ⟨wl, hwn⟩ : ∃ wl, want.length = wl := ⟨_, rfl⟩
  have HWL := Lib.hid hwn
  rw [hwn]
  go_enter Try.func42, Try.ntmps42
  go_upto_region 2 with (at_make; refine wpList_make_full _ rfl _ _ 26 rfl w.heap.size 5 i0 _ 1 Try.underlying26 hi0 hz0 hz1 .i64 .i64 _ _ 128 rfl rfl rfl rfl (by rw [hz2]; omega) (by unfold maxLen; omega) (Nat.le_refl _) ?_; intro w1 hown1 hg1)
  have hb1 : Below w.heap.size w w1 := (Below.refl _ _).grown hg1 (Nat.le_refl _) (by simp)
  have hz : (madeCells (Value.int .u8 0).cells (128 * 1)).toList = zsec.map byteV := by
    unfold zsec
    rw [List.map_replicate]
    exact toList_madeCells_one _ 128
  rw [hz] at hown1
  have hbz : BytesIn w1 (fun b => ¬ F b) (some ⟨w.heap.size, 0, none⟩) zsec := out_own hown1 zsec_small hF
  have hd1 : IsDev D w1 F (.pointer (some ⟨gp, 0, none⟩)) := h.below hb1
  have hF1 : ∀ b, F b → b < w1.heap.size := fun b q => Nat.lt_of_lt_of_le (hF b q) hb1.size
  have k1 := kb.below hb1 kb.lt
  have hgl1 := k1.lt
  have HB1 := Lib.hid hb1
  have HA := Lib.hid hA
  have HW := Lib.hid hw
  have H128 := Lib.hid h128
  have HBZ := Lib.hid hbz
  have HF1 := Lib.hid hF1
  clear hown1 hg1 hbz h hb1 hA hw hF hwn h128 kb hF1 hz
  go_wp2_with fail
  go_loopw [16, 8] (fun iv bv wr => ∃ (k : Nat), k ≤ n ∧ iv = .int .i64 (k : Nat) ∧ bv = .bool (makeN D p want k).2 ∧ IsDev (makeN D p want k).1 wr (grow F w1 wr) (.pointer (some ⟨gp, 0, none⟩)) ∧ Only F w1 wr) (fun iv _ _ => n - (intOf iv).toNat)
  case atStart => exact ⟨0, Nat.zero_le _, rfl, rfl, hd1.mono fun b q => .inl q, Only.refl _ _⟩
  case round =>
    clear hd1
    obtain ⟨k, hk, rfl, rfl, hd, hO⟩ := hrel
    have hFr : ∀ b, grow F w1 wr b → b < wr.heap.size := fun b q => q.elim (fun z => Nat.lt_of_lt_of_le (HF1.out b z) hO.size) fun z => z.2
    have hgood := makeN_good hG p want k
    have kr := k1.only hO hgl
    have c4 : wr.cell? ⟨gl, 4, none⟩ = some (.pointer (some ⟨gp, 0, none⟩)) := kr.cell 4
    have hnx := makeN_next D p want k
    generalize hs : makeN D p want k = s at *
    obtain ⟨Dk, bk⟩ := s
    simp only at hd hgood hnx
    rcases Nat.lt_or_ge k n with hlt | hge
    · have e1 : decide ((k : Int) < (n : Int)) = true := by rw [decide_eq_true_iff]; omega
      obtain ⟨q, hq⟩ : ∃ q, p + k = q := ⟨_, rfl⟩
      have v1 : IntKind.i64.wrap ((p : Int) + (k : Int)) = (q : Int) := by rw [IntKind.wrap_i64]; omega
      have hrd := read_any hd hgood (by omega) 0 (by omega) (q : Int)
      rw [hq] at hnx
      obtain ⟨lr, hlr⟩ : ∃ lr, (Dk.read 0 (q : Int)).1 = lr := ⟨_, rfl⟩
      rw [hlr] at hrd hnx
      have hwr := hO.size
      have TXT : Hid (∀ (W : World) (Aq : Option Addr) (lb : List Nat), Below wr.heap.size wr W → BytesIn w1 (fun b => ¬ F b) Aq lb → BytesIn W (fun b => ¬ grow F w1 wr b) Aq lb) := Lib.hid fun W Aq lb hW hb => out_below (out_post hb hO) hW
      have FIN : Hid (∀ W w2, Below wr.heap.size wr w2 → DevPost (Dk.write 0 (q : Int) (wantAt want k)).2 (grow F w1 wr) (.pointer (some ⟨gp, 0, none⟩)) w2 W → ¬ lr = wantAt want k → IsDev (makeN D p want (k + 1)).1 W (grow F w1 W) (.pointer (some ⟨gp, 0, none⟩)) ∧ (makeN D p want (k + 1)).2 = true ∧ Only F w1 W) := Lib.hid fun W w2 hb2 hp hne => by
        rw [hnx, if_neg hne]
        have hw2 := hb2.size
        refine ⟨hp.1.mono fun b z => ?_, rfl, hO.trans ((Only.of_below hb2 (grow F w1 wr)).trans hp.2 fun b z => .inl z) fun b z => z.imp id fun y => y.1⟩
        rcases z with (z | z) | z
        · exact .inl z
        · exact .inr ⟨z.1, Nat.lt_of_lt_of_le z.2 (Nat.le_trans hw2 hp.2.size)⟩
        · exact .inr ⟨by omega, z.2⟩
      have FIN2 : Hid (∀ W, Below wr.heap.size wr W → lr = wantAt want k → IsDev (makeN D p want (k + 1)).1 W (grow F w1 W) (.pointer (some ⟨gp, 0, none⟩)) ∧ (makeN D p want (k + 1)).2 = bk ∧ Only F w1 W) := Lib.hid fun W hW he => by
        rw [hnx, if_pos he]
        exact ⟨(hd.below hW).mono fun b z => z.imp id fun y => ⟨y.1, Nat.lt_of_lt_of_le y.2 hW.size⟩, rfl, hO.trans (Only.of_below hW (fun _ => False)) fun b z => z.elim⟩
      by_cases hkw : k < wl
      · have e2 : decide ((k : Int) < (wl : Int)) = true := by rw [decide_eq_true_iff]; omega
        have e3 : (0 : Int) ≤ (k : Int) := by omega
        have e4 : (k : Int) < (wl : Int) := by omega
        have hkl : k < want.length := by rw [HWL.out]; exact hkw
        obtain ⟨u, hu, hT⟩ := HW.out.2 k _ (List.getElem?_eq_getElem hkl)
        obtain ⟨Ab, cb, rfl, hcb, hTb0⟩ := hT.bytes
        obtain ⟨b, o, rfl, hFb, hbw, hc⟩ := HA.out k (by rw [HW.out.1]; exact hkl)
        have hLk : Lw[k]'(by rw [HW.out.1]; exact hkl) = .slice Ab want[k].length cb := by
          rw [List.getElem?_eq_getElem (by rw [HW.out.1]; exact hkl)] at hu
          exact Option.some.inj hu
        have hl128 : want[k].length = 128 := H128.out _ (List.getElem_mem hkl)
        have hlbw : want[k] = wantAt want k := by unfold wantAt; rw [List.getElem?_eq_getElem hkl]; rfl
        rw [hLk] at hc
        have hcr : wr.cell? ⟨b, o + k, none⟩ = some (.slice Ab want[k].length cb) := (hO.cell (p := ⟨b, o + k, none⟩) (Nat.lt_of_lt_of_le hbw HB1.out.size) hFb).trans ((HB1.out.cell (p := ⟨b, o + k, none⟩) hbw).trans hc)
        have hTb : BytesIn w1 (fun b => ¬ F b) Ab want[k] := out_below hTb0 HB1.out
        generalize want[k] = lb at *
        rw [hl128] at hcr
        clear hLk hu hT hTb0 hc hcb hs hq hk hgl1 hkl
        go_wp2_with fail
        refine hrd.mono ?_
        rintro e w2 ⟨A2, c2, rfl, ho2, hb2, hs2⟩
        have hlb2 := TXT.out w2 Ab lb hb2 hTb
        have heq := equal_any A2 Ab c2 cb lr lb w2.heap.size w2 (own_bytes ho2 hs2) hlb2.bytes
        rw [hl128] at heq
        have k2 := kr.below hb2 kr.lt
        have c4 : w2.cell? ⟨gl, 4, none⟩ = some (.pointer (some ⟨gp, 0, none⟩)) := k2.cell 4
        have hF2 : ∀ b, grow F w1 wr b → b < w2.heap.size := fun b z => Nat.lt_of_lt_of_le (hFr b z) hb2.size
        have hwt := write_any (hd.below hb2) hF2 hgood (by omega) 0 (by omega) (q : Int) Ab cb lb hlb2
        rw [hl128] at hwt
        have F1 : Hid (∀ W, DevPost (Dk.write 0 (q : Int) lb).2 (grow F w1 wr) (.pointer (some ⟨gp, 0, none⟩)) w2 W → ¬ lr = lb → IsDev (makeN D p want (k + 1)).1 W (grow F w1 W) (.pointer (some ⟨gp, 0, none⟩)) ∧ (makeN D p want (k + 1)).2 = true ∧ Only F w1 W) := Lib.hid fun W hp hne => by
          rw [hlbw] at hp hne
          exact FIN.out W w2 hb2 hp hne
        have F2 : Hid (lr = lb → IsDev (makeN D p want (k + 1)).1 w2 (grow F w1 w2) (.pointer (some ⟨gp, 0, none⟩)) ∧ (makeN D p want (k + 1)).2 = bk ∧ Only F w1 w2) := Lib.hid fun he => FIN2.out w2 hb2 (by rw [← hlbw]; exact he)
        clear hrd ho2 hs2 hlb2 TXT hTb hd hO hFr hgood k2 kr hF2 hl128 hlbw FIN FIN2 hnx hlr
        go_wp2_with fail
        refine heq.mono ?_
        rintro e w3 ⟨rfl, rfl⟩
        clear heq
        by_cases he : lr = lb
        · rw [decide_eq_true he]
          have H := Lib.hid (F2.out he)
          clear F1 F2 he hwt
          go_wp2
          go_roundw
          case rel => exact ⟨k + 1, by omega, by go_num, by rw [H.out.2.1], H.out.1, H.out.2.2⟩
          case measure => simp [intOf]; omega
        · rw [decide_eq_false he]
          have H := Lib.hid fun W hp => F1.out W hp he
          clear F1 F2 he
          go_wp2_with fail
          refine hwt.mono ?_
          rintro e w4 ⟨rfl, hp⟩
          have H4 := Lib.hid (H.out w4 hp)
          clear hp H hwt
          go_wp2
          go_roundw
          case rel => exact ⟨k + 1, by omega, by go_num, by rw [H4.out.2.1], H4.out.1, H4.out.2.2⟩
          case measure => simp [intOf]; omega
      · have e2 : decide ((k : Int) < (wl : Int)) = false := by rw [decide_eq_false_iff_not]; omega
        have hTb : BytesIn w1 (fun b => ¬ F b) (some ⟨w.heap.size, 0, none⟩) zsec := HBZ.out
        have hl128 : zsec.length = 128 := zsec_length
        have hlbw : zsec = wantAt want k := by unfold wantAt; rw [List.getElem?_eq_none (by rw [HWL.out]; omega)]; rfl
        obtain ⟨Ab, hAb⟩ : ∃ Ab, some (⟨w.heap.size, 0, none⟩ : Addr) = Ab := ⟨_, rfl⟩
        obtain ⟨cb, hcb⟩ : ∃ cb, 128 = cb := ⟨_, rfl⟩
        rw [hAb] at hTb
        subst hAb
        subst hcb
        generalize zsec = lb at *
        clear hs hq hk hgl1
        go_wp2_with fail
        refine hrd.mono ?_
        rintro e w2 ⟨A2, c2, rfl, ho2, hb2, hs2⟩
        have hlb2 := TXT.out w2 _ lb hb2 hTb
        have heq := equal_any A2 (some ⟨w.heap.size, 0, none⟩) c2 128 lr lb w2.heap.size w2 (own_bytes ho2 hs2) hlb2.bytes
        rw [hl128] at heq
        have k2 := kr.below hb2 kr.lt
        have c4 : w2.cell? ⟨gl, 4, none⟩ = some (.pointer (some ⟨gp, 0, none⟩)) := k2.cell 4
        have hF2 : ∀ b, grow F w1 wr b → b < w2.heap.size := fun b z => Nat.lt_of_lt_of_le (hFr b z) hb2.size
        have hwt := write_any (hd.below hb2) hF2 hgood (by omega) 0 (by omega) (q : Int) (some ⟨w.heap.size, 0, none⟩) 128 lb hlb2
        rw [hl128] at hwt
        have F1 : Hid (∀ W, DevPost (Dk.write 0 (q : Int) lb).2 (grow F w1 wr) (.pointer (some ⟨gp, 0, none⟩)) w2 W → ¬ lr = lb → IsDev (makeN D p want (k + 1)).1 W (grow F w1 W) (.pointer (some ⟨gp, 0, none⟩)) ∧ (makeN D p want (k + 1)).2 = true ∧ Only F w1 W) := Lib.hid fun W hp hne => by
          rw [hlbw] at hp hne
          exact FIN.out W w2 hb2 hp hne
        have F2 : Hid (lr = lb → IsDev (makeN D p want (k + 1)).1 w2 (grow F w1 w2) (.pointer (some ⟨gp, 0, none⟩)) ∧ (makeN D p want (k + 1)).2 = bk ∧ Only F w1 w2) := Lib.hid fun he => FIN2.out w2 hb2 (by rw [← hlbw]; exact he)
        clear hrd ho2 hs2 hlb2 TXT hTb hd hO hFr hgood k2 kr hF2 hl128 hlbw FIN FIN2 hnx hlr
        go_wp2_with fail
        refine heq.mono ?_
        rintro e w3 ⟨rfl, rfl⟩
        clear heq
        by_cases he : lr = lb
        · rw [decide_eq_true he]
          have H := Lib.hid (F2.out he)
          clear F1 F2 he hwt
          go_wp2
          go_roundw
          case rel => exact ⟨k + 1, by omega, by go_num, by rw [H.out.2.1], H.out.1, H.out.2.2⟩
          case measure => simp [intOf]; omega
        · rw [decide_eq_false he]
          have H := Lib.hid fun W hp => F1.out W hp he
          clear F1 F2 he
          go_wp2_with fail
          refine hwt.mono ?_
          rintro e w4 ⟨rfl, hp⟩
          have H4 := Lib.hid (H.out w4 hp)
          clear hp H hwt
          go_wp2
          go_roundw
          case rel => exact ⟨k + 1, by omega, by go_num, by rw [H4.out.2.1], H4.out.1, H4.out.2.2⟩
          case measure => simp [intOf]; omega
    · obtain rfl : k = n := by omega
      have e1 : decide ((k : Int) < (k : Int)) = false := by rw [decide_eq_false_iff_not]; omega
      have hmk : makeP D p k want = if bk = true then Dk.sync 0 else Dk := by unfold makeP; rw [hs]
      have OUT : Hid (∀ W, DevPost (makeP D p k want) (grow F w1 wr) (.pointer (some ⟨gp, 0, none⟩)) wr W → DevPost (makeP D p k want) F (.pointer (some ⟨gp, 0, none⟩)) w W) := Lib.hid fun W hp => by
        refine ⟨hp.1.mono fun b z => ?_, ((Only.of_below HB1.out F).trans hO fun b z => .inl z).trans hp.2 fun b z => z.imp id fun y => Nat.le_trans HB1.out.size y.1⟩
        have := HB1.out.size
        have h3 := hO.size
        have h4 := hp.2.size
        rcases z with (z | z) | z
        · exact .inl z
        · exact .inr ⟨by omega, by omega⟩
        · exact .inr ⟨by omega, by omega⟩
      have c4 : wr.cell? ⟨gl, 4, none⟩ = some (.pointer (some ⟨gp, 0, none⟩)) := kr.cell 4
      cases bk with
      | true =>
        rw [if_pos rfl] at hmk
        have hsy := sync_any hd hFr hgood (by omega) 0 (by omega)
        rw [← hmk] at hsy
        clear hd hO hFr hgood kr k1 hs hmk hnx hgl1
        go_wp2_with fail
        refine hsy.mono ?_
        rintro e w2 ⟨rfl, hp⟩
        have H := Lib.hid (OUT.out w2 hp)
        clear hp OUT hsy
        go_wp2
        go_end0
        exact ⟨rfl, H.out⟩
      | false =>
        rw [if_neg (by simp)] at hmk
        have H := Lib.hid (OUT.out wr (by rw [hmk]; exact DevPost.refl hd))
        clear hd hO hFr hgood kr k1 hs hmk hnx hgl1 OUT
        go_wp2
        go_end0
        exact ⟨rfl, H.out⟩
end Go.Proofs.Ytkganajbilnanaa
