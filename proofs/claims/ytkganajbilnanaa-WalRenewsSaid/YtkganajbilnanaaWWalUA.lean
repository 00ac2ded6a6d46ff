/- wal: Flush: the walk. Conditions: the log lies there. -/
import Derived.Test.YtkganajbilnanaaWWalU
namespace Go.Proofs.Ytkganajbilnanaa
open Go.ChangeShapes Go.WideShapes Go.ChangeAt Go.RowKit
open NumMath
set_option linter.unusedVariables false
set_option linter.unusedSimpArgs false
set_option maxRecDepth 20000

set_option maxHeartbeats 8000000 in
theorem flush_any {L : LogP} {D : DevP} {w : World} {F G : Nat → Prop} {gl : Nat} {pd sv st : Value} (h : Lg L D w F G gl pd sv st) (hk : L.ok) {N : Nat} (hG : D.good N) (hN : N + 5000 ≤ 100000) (lsn : Nat) (hlsn : lsn < 18446744073709551616) :
    Calls Try.prog 46 #[.pointer (some ⟨gl, 0, none⟩), .int .u64 (lsn : Nat)] w fun e w' => e = .returned (.tuple #[]) ∧ LgPost (flushL L lsn) (flushD L D lsn) F G gl pd w w' := by
  obtain ⟨gp, s0, lv0, X0, rfl, -⟩ := id h.dev
  have cat := at_lg h hk lsn hlsn
  have hkP : kP L lsn = (atP L lsn).1 + if (atP L lsn).2 = true then 1 else 0 := rfl
  have hil := @atP_le L lsn
  have hcn := hk.cnt
  generalize hat : atP L lsn = x at *
  obtain ⟨i, b⟩ := x
  simp only at cat hkP hil
  have HK := Lib.hid hk
  have H0 := Lib.hid h
  have NOP : Hid (toP L lsn ≤ L.lasts → ∀ W, Below w.heap.size w W → LgPost (flushL L lsn) (flushD L D lsn) F G gl (.pointer (some ⟨gp, 0, none⟩)) w W) := Lib.hid fun q W hW => by
    unfold flushL flushD
    rw [if_pos q, if_pos q]
    exact LgPost.below H0.out hW
  clear hat h hk
  go_enter Try.func46, Try.ntmps46
  go_wp2_with fail
  refine cat.mono ?_
  rintro e w2 ⟨rfl, hd2⟩
  have hB2 := hd2.below w.heap.size
  have HL2 := Lib.hid (H0.out.below hB2)
  have HB2 := Lib.hid hB2
  clear cat hd2 hB2
  cases b with
  | false =>
    rw [if_neg (by simp), Nat.add_zero] at hkP
    rcases Nat.eq_zero_or_pos i with z | z
    · subst z
      have HN := Lib.hid (NOP.out (by unfold toP; rw [if_pos hkP]; exact Nat.zero_le _) w2 HB2.out)
      clear NOP hkP
      go_wp2
      refine bodyPost_ret (results_none rfl _ _ _) rfl ?_
      exact ⟨rfl, HN.out⟩
    · have HKP := Lib.hid hkP
      clear hkP
      obtain ⟨k, rfl⟩ : ∃ k, k = i := ⟨_, rfl⟩
      have V0 : Hid True := Lib.hid trivial
      have t1 : ((k : Int) == 0) = false := by rw [beq_eq_false_iff_ne]; omega
      obtain ⟨j, hj⟩ : ∃ j, k - 1 = j := ⟨_, rfl⟩
      have V1 : Hid (IntKind.i64.wrap ((k : Int) - 1) = (j : Int)) := Lib.hid (by rw [IntKind.wrap_i64]; omega)
      have cbe := behind_lg HL2.out j (by omega)
      have hto : toP L lsn = behindP L.starts L.stream.length j := by unfold toP; rw [HKP.out, if_neg (by omega), hj]
      have htl := toP_le HK.out lsn
      generalize behindP L.starts L.stream.length j = t at *
      rw [hto] at htl
      have HT := Lib.hid hto
      have c9 : w2.cell? ⟨gl, 9, none⟩ = some (.int .i64 (L.lasts : Nat)) := HL2.out.log.blk.cell 9
      obtain ⟨la, hla⟩ : ∃ la, L.lasts = la := ⟨_, rfl⟩
      rw [hla] at c9
      have HLA := Lib.hid hla
      clear hj hto hla
      by_cases htla : t ≤ la
      · have u1 : decide ((t : Int) ≤ (la : Int)) = true := by rw [decide_eq_true_iff]; omega
        have HN := Lib.hid (NOP.out (by rw [HT.out, HLA.out]; exact htla) w2 HB2.out)
        clear NOP htl
        have v1 := V1.out
        have v0 := V0.out
        go_wp2_with fail
        refine cbe.mono ?_
        rintro e w3 ⟨rfl, rfl⟩
        clear cbe
        go_wp2
        refine bodyPost_ret (results_none rfl _ _ _) rfl ?_
        exact ⟨rfl, HN.out⟩
      have u1 : decide ((t : Int) ≤ (la : Int)) = false := by rw [decide_eq_false_iff_not]; omega
      obtain ⟨f, hf⟩ : ∃ f, la / 127 = f := ⟨_, rfl⟩
      have hlst := HK.out.lasts
      have hlen := HK.out.len
      have hstr := HK.out.strips
      rw [HLA.out] at hlst
      obtain ⟨n, hn⟩ : ∃ n, L.stream.length = n := ⟨_, rfl⟩
      rw [hn] at hlst hlen htl
      have hnb : n ≤ 88900 := by omega
      have W2_ : Hid (((la : Int)) / 127 = (f : Int)) := Lib.hid (by omega)
      have W1_ : Hid (((la : Int)).tdiv 127 = (f : Int)) := Lib.hid (by rw [Int.tdiv_eq_ediv_of_nonneg (by omega)]; exact W2_.out)
      have hfb : f ≤ 3000 := by omega
      have hfb2 : f < 9223372036854775808 := by omega
      have W3_ := Lib.hid (wrap6 f hfb2)
      have W4_ := Lib.hid (wrapi f hfb2)
      obtain ⟨Av, cv, hsv, hcv, hbv⟩ := HL2.out.log.bytes
      rw [hn] at hsv hcv
      have c7 : w2.cell? ⟨gl, 7, none⟩ = some (.slice Av n cv) := by rw [← hsv]; exact HL2.out.log.blk.cell 7
      have b1 : (t : Int) ≤ (cv : Int) := by omega
      have b0 : (0 : Int) ≤ (t : Int) := by omega
      have htk : (L.stream.take t).length = t := by rw [List.length_take, hn]; omega
      have clay := lay_any Av (L.stream.take t) cv w2.heap.size (by rw [htk]; omega) (by rw [htk]; omega) w2 (Nat.le_refl _) (hbv.take t)
      have hchk : f < chunks (L.stream.take t) := by unfold chunks; rw [htk]; omega
      have hchk2 : chunks (L.stream.take t) ≤ 3000 := by unfold chunks; rw [htk]; omega
      have hll := layOf_length' (L.stream.take t)
      have HFS : Hid (flushS L (toP L lsn) = (layOf (L.stream.take t)).drop f) := Lib.hid (by rw [HT.out]; unfold flushS; rw [HLA.out, hf])
      rw [htk] at clay
      generalize layOf (L.stream.take t) = rows at *
      generalize chunks (L.stream.take t) = rl at *
      have HN := Lib.hid hn
      have HF := Lib.hid hf
      clear hsv htk hn hbv hf hlst hlen hstr htl NOP
      have w2_ := W2_.out
      have w1_ := W1_.out
      have w3_ := W3_.out
      have v1 := V1.out
      have v0 := V0.out
      go_wp2_with fail
      refine cbe.mono ?_
      rintro e w3 ⟨rfl, rfl⟩
      clear cbe v1 v0
      have w4_ := W4_.out
      go_upto_region 6 with fail
      go_upto_region 7 with fail
      clear w1_ w2_ w3_ w4_
      go_wp2_with fail
      refine clay.mono ?_
      rintro e w3 ⟨vr, Lr, rfl, ho3, hr3, hb3⟩
      obtain ⟨Ar, cr, rfl, hcr, -⟩ := own_form ho3
      obtain ⟨g, rfl, hg1, hg2⟩ := own_pos ho3 (by omega)
      have b2 : (f : Int) ≤ (rl : Int) := by omega
      have b3 : (rl : Int) ≤ (cr : Int) := by omega
      have b4 : (0 : Int) ≤ (f : Int) := by omega
      clear clay
      go_wp2_with fail
      obtain ⟨m, hm⟩ : ∃ m, rl - f = m := ⟨_, rfl⟩
      rw [hm]
      obtain ⟨p0, hp0⟩ : ∃ p0, 2 + L.h.area * L.strips = p0 := ⟨_, rfl⟩
      have hst7 := HK.out.strips
      have hp0b : p0 ≤ 3000 := by
        have h1 := HK.out.area
        have h2 : L.h.area * L.strips ≤ 1 * 700 := Nat.mul_le_mul (by omega) hst7
        omega
      have hm3 : m ≤ 3000 := by omega
      have hfm : f + m = rl := by omega
      have hrl' : (rows.drop f).length = m := by rw [List.length_drop, hll]; exact hm
      have HFD : Hid (flushD L D lsn = (wrN D (p0 + f) (rows.drop f) m).sync 0) := Lib.hid (by
        unfold flushD
        rw [if_neg (by rw [HT.out, HLA.out]; exact htla), HFS.out, hrl']
        unfold firstP
        rw [hp0, HLA.out, HF.out])
      have HFL : Hid (flushL L lsn = { L with lasts := t }) := Lib.hid (by
        unfold flushL
        rw [if_neg (by rw [HT.out, HLA.out]; exact htla), HT.out])
      have hL3 := HL2.out.below hb3
      have HL3 := Lib.hid hL3
      have hd3 := hL3.dev
      have HO3 := Lib.hid (And.intro ho3 hr3)
      have HB3 : Hid (Below w.heap.size w w3) := Lib.hid (HB2.out.trans (hb3.mono HB2.out.size))
      have HB23 := Lib.hid hb3
      have HF2 := Lib.hid HL2.out.hiF
      have HP0 := Lib.hid hp0
      clear hL3 ho3 hr3 hb3 hm hll hp0 hcr hchk hchk2 b1 b0 b2 b3 c7 c9 u1 t1 hst7
      go_loopw [46] (fun iv wr => ∃ (j : Nat), j ≤ m ∧ iv = .int .i64 (j : Nat) ∧ IsDev (wrN D (p0 + f) (rows.drop f) j) wr (grow F w3 wr) (.pointer (some ⟨gp, 0, none⟩)) ∧ Only F w3 wr) (fun iv _ => m - (intOf iv).toNat)
      case atStart => exact ⟨0, Nat.zero_le _, rfl, hd3.mono fun b q => .inl q, Only.refl _ _⟩
      case round =>
        clear hd3
        obtain ⟨j, hj, rfl, hd, hO⟩ := hrel
        have nF : ¬ F gl := fun q => HL3.out.dis gl q HL3.out.log.inG
        have hFr : ∀ b, grow F w3 wr b → b < wr.heap.size := fun b q => q.elim (fun z => Nat.lt_of_lt_of_le (HL3.out.hiF b z) hO.size) fun z => z.2
        have kr := HL3.out.log.blk.only hO nF
        have hgood := wrN_good hG (p0 + f) (rows.drop f) j
        rcases Nat.lt_or_ge j m with hlt | hge
        · have e1 : decide ((j : Int) < (m : Int)) = true := by rw [decide_eq_true_iff]; omega
          have e2 : (0 : Int) ≤ (j : Int) := by omega
          have e3 : (j : Int) < (m : Int) := by omega
          have hjr : f + j < rows.length := by rw [List.length_drop] at hrl'; omega
          obtain ⟨ho3, hr3⟩ := HO3.out
          have hjL : f + j < Lr.length := by rw [hr3.1]; exact hjr
          obtain ⟨⟨Ab, cb, hvb⟩, hob, hsb⟩ := hr3.2 (f + j) _ _ (List.getElem?_eq_getElem hjL) (List.getElem?_eq_getElem hjr)
          rw [hvb] at hob
          have hcell : wr.cell? ⟨g, f + j, none⟩ = some (.slice Ab rows[f + j].length cb) := by
            refine (hO.cell (p := ⟨g, f + j, none⟩) hg2 fun q => ?_).trans ?_
            · have := HF2.out g q
              omega
            · rw [ho3.cellAt (f + j) (by rw [← hfm]; omega), List.getElem?_eq_getElem hjL, hvb]
          have hout : BytesIn w3 (fun b => ¬ F b) Ab rows[f + j] := out_own hob hsb HF2.out
          have hidx : (rows.drop f)[j]?.getD [] = rows[f + j] := by rw [List.getElem?_drop, List.getElem?_eq_getElem hjr]; rfl
          have hnx : wrN D (p0 + f) (rows.drop f) (j + 1) = ((wrN D (p0 + f) (rows.drop f) j).write 0 ((p0 + f + j : Nat) : Int) rows[f + j]).2 := by
            rw [← hidx]
            rfl
          generalize rows[f + j] = lb at *
          obtain ⟨q1, hq1⟩ : ∃ q1, p0 + f = q1 := ⟨_, rfl⟩
          obtain ⟨q, hq⟩ : ∃ q, q1 + j = q := ⟨_, rfl⟩
          have V1 : Hid (IntKind.i64.wrap ((p0 : Int) + (f : Int)) = (q1 : Int)) := Lib.hid (by rw [IntKind.wrap_i64]; omega)
          have V2 : Hid (IntKind.i64.wrap ((q1 : Int) + (j : Int)) = (q : Int)) := Lib.hid (by rw [IntKind.wrap_i64]; omega)
          rw [hq1] at hgood hnx hd
          rw [hq1]
          rw [hq] at hnx
          have WR : Hid (∀ W, Below wr.heap.size wr W → Calls Try.prog 63 #[.pointer (some ⟨gp, 0, none⟩), .int .u8 0, .int .i64 (q : Int), .slice Ab lb.length cb] W fun e w' => e = .returned (.int .u16 (((wrN D q1 (rows.drop f) j).write 0 (q : Int) lb).1 : Nat)) ∧ DevPost ((wrN D q1 (rows.drop f) j).write 0 (q : Int) lb).2 (grow F w3 wr) (.pointer (some ⟨gp, 0, none⟩)) W w') := Lib.hid fun W hW =>
            write_any (hd.below hW) (fun b z => Nat.lt_of_lt_of_le (hFr b z) hW.size) hgood (by omega) 0 (by omega) (q : Int) Ab cb lb (out_below (out_post hout hO) hW)
          have FI : Hid (∀ W, Below wr.heap.size wr W → Calls Try.prog 39 #[.pointer (some ⟨gl, 0, none⟩), .int .i64 (L.h.area : Nat)] W fun e w' => e = .returned (.int .i64 (p0 : Int)) ∧ W = w') := Lib.hid fun W hW => by
            have := first_any (kr.below hW kr.lt) (by have := HK.out.strips; omega) L.h.area HK.out.area
            rw [HP0.out] at this
            exact this
          have bd := below_drew0 wr
          have CELLS : Hid (∀ W', Only (grow F w3 wr) wr W' → W'.cell? ⟨gl, 3, none⟩ = some (.int .i64 (L.h.area : Nat)) ∧ W'.cell? ⟨gl, 4, none⟩ = some (.pointer (some ⟨gp, 0, none⟩))) := Lib.hid fun W' ho => by
            have k := kr.only ho fun z => z.elim nF fun y => by have := HL3.out.log.blk.lt; omega
            exact ⟨k.cell 3, k.cell 4⟩
          have x0 := CELLS.out wr.drew (Only.of_below bd _)
          have cf := FI.out wr.drew bd
          have cw := WR.out wr.drew bd
          have NX : Hid (∀ W, DevPost ((wrN D q1 (rows.drop f) j).write 0 (q : Int) lb).2 (grow F w3 wr) (.pointer (some ⟨gp, 0, none⟩)) wr.drew W → IsDev (wrN D q1 (rows.drop f) (j + 1)) W (grow F w3 W) (.pointer (some ⟨gp, 0, none⟩)) ∧ Only F w3 W) := Lib.hid fun W hp => by
            rw [hnx]
            exact ⟨hp.1.mono (grow_grow hO.size hp.2.size), (hO.trans (Only.of_below bd F) fun b z => .inl z).trans hp.2 fun b z => z.imp id fun y => y.1⟩
          obtain ⟨nl, hnl⟩ : ∃ nl, lb.length = nl := ⟨_, rfl⟩
          rw [hnl] at hcell cw
          generalize L.h.area = ar at *
          clear hnx hgood hout hidx hob hsb hvb hjL ho3 hr3 hq1 hq hd hO hFr WR FI hjr hnl kr
          go_upto_region 10 with fail
          have v1 := V1.out
          have v2 := V2.out
          go_region_held3 (fun W' => W'.cell? ⟨gl, 3, none⟩ = some (.int .i64 (ar : Nat)) ∧ W'.cell? ⟨gl, 4, none⟩ = some (.pointer (some ⟨gp, 0, none⟩)))
            (first | with_reducible (exact x0) | with_reducible (exact x2) | fail)
            (first
              | ((with_reducible refine cf.mono ?_); rintro e w4 ⟨rfl, rfl⟩)
              | ((with_reducible refine cw.mono ?_); rintro e w5 ⟨rfl, hp5⟩; have x2 := CELLS.out w5 ((Only.of_below bd _).trans hp5.2 fun b z => .inl z); have H5 := Lib.hid (NX.out w5 hp5))
              | fail)
          all_goals
            clear v1 v2 hp5 cw cf x0 NX CELLS bd
            go_wp2
            go_roundw
            case rel => exact ⟨j + 1, by omega, by go_num, H5.out.1, H5.out.2⟩
            case measure => simp [intOf]; omega
        · obtain rfl : j = m := by omega
          have e1 : decide ((j : Int) < (j : Int)) = false := by rw [decide_eq_false_iff_not]; omega
          have c4 : wr.cell? ⟨gl, 4, none⟩ = some (.pointer (some ⟨gp, 0, none⟩)) := kr.cell 4
          have hsy := sync_any hd hFr hgood (by omega) 0 (by omega)
          rw [← HFD.out] at hsy
          have FIN : Hid (∀ W, DevPost (flushD L D lsn) (grow F w3 wr) (.pointer (some ⟨gp, 0, none⟩)) wr W → W.cell? ⟨gl, 9, none⟩ = some (.int .i64 (la : Nat)) ∧ W.frozen? ⟨gl, 9, none⟩ = false ∧ LgPost (flushL L lsn) (flushD L D lsn) F G gl (.pointer (some ⟨gp, 0, none⟩)) w (W.setCell ⟨gl, 9, none⟩ (.int .i64 (t : Nat)))) := Lib.hid fun W hp => by
            have hp3 : DevPost (flushD L D lsn) F (.pointer (some ⟨gp, 0, none⟩)) w3 W := ⟨hp.1.mono (grow_grow hO.size hp.2.size), hO.trans hp.2 fun b z => z.imp id fun y => y.1⟩
            have hLW := HL3.out.devPost hp3
            have kW := hLW.log.blk
            refine ⟨by rw [← HLA.out]; exact kW.cell 9, kW.frozen 9, ?_⟩
            refine LgPost.lead HB3.out ?_
            refine LgPost.trans (F' := grow F w3 W) (G' := G) (fun b z => z) (fun b z => .inl z) (hp3.2.mono fun b z => .inl (.inl z)) ?_
            rw [HFL.out]
            exact LgPost.box hLW ((Only.refl (fun b => b = gl) W).setCell (p := ⟨gl, 9, none⟩) (.inl rfl) _) (kW.set_ 9 _) rfl rfl
          clear hd hO hFr hgood kr
          go_wp2_with fail
          refine hsy.mono ?_
          rintro e w4 ⟨rfl, hp⟩
          obtain ⟨c9, z9, hf9⟩ := FIN.out w4 hp
          have H := Lib.hid hf9
          clear hp hf9 FIN hsy
          go_wp2
          go_end0
          exact ⟨rfl, H.out⟩
  | true =>
    rw [if_pos rfl] at hkP
    obtain ⟨k, hk⟩ : ∃ k, i + 1 = k := ⟨_, rfl⟩
    have V0 : Hid (IntKind.i64.wrap ((i : Int) + 1) = (k : Int)) := Lib.hid (by rw [IntKind.wrap_i64]; omega)
    rw [hk] at hkP
    have HKP := Lib.hid hkP
    have z : 0 < k := by omega
    have hk2 : k ≤ 200000 := by omega
    clear hkP hk hil hcn
    have t1 : ((k : Int) == 0) = false := by rw [beq_eq_false_iff_ne]; omega
    obtain ⟨j, hj⟩ : ∃ j, k - 1 = j := ⟨_, rfl⟩
    have V1 : Hid (IntKind.i64.wrap ((k : Int) - 1) = (j : Int)) := Lib.hid (by rw [IntKind.wrap_i64]; omega)
    have cbe := behind_lg HL2.out j (by omega)
    have hto : toP L lsn = behindP L.starts L.stream.length j := by unfold toP; rw [HKP.out, if_neg (by omega), hj]
    have htl := toP_le HK.out lsn
    generalize behindP L.starts L.stream.length j = t at *
    rw [hto] at htl
    have HT := Lib.hid hto
    have c9 : w2.cell? ⟨gl, 9, none⟩ = some (.int .i64 (L.lasts : Nat)) := HL2.out.log.blk.cell 9
    obtain ⟨la, hla⟩ : ∃ la, L.lasts = la := ⟨_, rfl⟩
    rw [hla] at c9
    have HLA := Lib.hid hla
    clear hj hto hla
    by_cases htla : t ≤ la
    · have u1 : decide ((t : Int) ≤ (la : Int)) = true := by rw [decide_eq_true_iff]; omega
      have HN := Lib.hid (NOP.out (by rw [HT.out, HLA.out]; exact htla) w2 HB2.out)
      clear NOP htl
      have v1 := V1.out
      have v0 := V0.out
      go_wp2_with fail
      refine cbe.mono ?_
      rintro e w3 ⟨rfl, rfl⟩
      clear cbe
      go_wp2
      refine bodyPost_ret (results_none rfl _ _ _) rfl ?_
      exact ⟨rfl, HN.out⟩
    have u1 : decide ((t : Int) ≤ (la : Int)) = false := by rw [decide_eq_false_iff_not]; omega
    obtain ⟨f, hf⟩ : ∃ f, la / 127 = f := ⟨_, rfl⟩
    have hlst := HK.out.lasts
    have hlen := HK.out.len
    have hstr := HK.out.strips
    rw [HLA.out] at hlst
    obtain ⟨n, hn⟩ : ∃ n, L.stream.length = n := ⟨_, rfl⟩
    rw [hn] at hlst hlen htl
    have hnb : n ≤ 88900 := by omega
    have W2_ : Hid (((la : Int)) / 127 = (f : Int)) := Lib.hid (by omega)
    have W1_ : Hid (((la : Int)).tdiv 127 = (f : Int)) := Lib.hid (by rw [Int.tdiv_eq_ediv_of_nonneg (by omega)]; exact W2_.out)
    have hfb : f ≤ 3000 := by omega
    have hfb2 : f < 9223372036854775808 := by omega
    have W3_ := Lib.hid (wrap6 f hfb2)
    have W4_ := Lib.hid (wrapi f hfb2)
    obtain ⟨Av, cv, hsv, hcv, hbv⟩ := HL2.out.log.bytes
    rw [hn] at hsv hcv
    have c7 : w2.cell? ⟨gl, 7, none⟩ = some (.slice Av n cv) := by rw [← hsv]; exact HL2.out.log.blk.cell 7
    have b1 : (t : Int) ≤ (cv : Int) := by omega
    have b0 : (0 : Int) ≤ (t : Int) := by omega
    have htk : (L.stream.take t).length = t := by rw [List.length_take, hn]; omega
    have clay := lay_any Av (L.stream.take t) cv w2.heap.size (by rw [htk]; omega) (by rw [htk]; omega) w2 (Nat.le_refl _) (hbv.take t)
    have hchk : f < chunks (L.stream.take t) := by unfold chunks; rw [htk]; omega
    have hchk2 : chunks (L.stream.take t) ≤ 3000 := by unfold chunks; rw [htk]; omega
    have hll := layOf_length' (L.stream.take t)
    have HFS : Hid (flushS L (toP L lsn) = (layOf (L.stream.take t)).drop f) := Lib.hid (by rw [HT.out]; unfold flushS; rw [HLA.out, hf])
    rw [htk] at clay
    generalize layOf (L.stream.take t) = rows at *
    generalize chunks (L.stream.take t) = rl at *
    have HN := Lib.hid hn
    have HF := Lib.hid hf
    clear hsv htk hn hbv hf hlst hlen hstr htl NOP
    have w2_ := W2_.out
    have w1_ := W1_.out
    have w3_ := W3_.out
    have v1 := V1.out
    have v0 := V0.out
    go_wp2_with fail
    refine cbe.mono ?_
    rintro e w3 ⟨rfl, rfl⟩
    clear cbe v1 v0
    have w4_ := W4_.out
    go_upto_region 6 with fail
    go_upto_region 7 with fail
    clear w1_ w2_ w3_ w4_
    go_wp2_with fail
    refine clay.mono ?_
    rintro e w3 ⟨vr, Lr, rfl, ho3, hr3, hb3⟩
    obtain ⟨Ar, cr, rfl, hcr, -⟩ := own_form ho3
    obtain ⟨g, rfl, hg1, hg2⟩ := own_pos ho3 (by omega)
    have b2 : (f : Int) ≤ (rl : Int) := by omega
    have b3 : (rl : Int) ≤ (cr : Int) := by omega
    have b4 : (0 : Int) ≤ (f : Int) := by omega
    clear clay
    go_wp2_with fail
    obtain ⟨m, hm⟩ : ∃ m, rl - f = m := ⟨_, rfl⟩
    rw [hm]
    obtain ⟨p0, hp0⟩ : ∃ p0, 2 + L.h.area * L.strips = p0 := ⟨_, rfl⟩
    have hst7 := HK.out.strips
    have hp0b : p0 ≤ 3000 := by
      have h1 := HK.out.area
      have h2 : L.h.area * L.strips ≤ 1 * 700 := Nat.mul_le_mul (by omega) hst7
      omega
    have hm3 : m ≤ 3000 := by omega
    have hfm : f + m = rl := by omega
    have hrl' : (rows.drop f).length = m := by rw [List.length_drop, hll]; exact hm
    have HFD : Hid (flushD L D lsn = (wrN D (p0 + f) (rows.drop f) m).sync 0) := Lib.hid (by
      unfold flushD
      rw [if_neg (by rw [HT.out, HLA.out]; exact htla), HFS.out, hrl']
      unfold firstP
      rw [hp0, HLA.out, HF.out])
    have HFL : Hid (flushL L lsn = { L with lasts := t }) := Lib.hid (by
      unfold flushL
      rw [if_neg (by rw [HT.out, HLA.out]; exact htla), HT.out])
    have hL3 := HL2.out.below hb3
    have HL3 := Lib.hid hL3
    have hd3 := hL3.dev
    have HO3 := Lib.hid (And.intro ho3 hr3)
    have HB3 : Hid (Below w.heap.size w w3) := Lib.hid (HB2.out.trans (hb3.mono HB2.out.size))
    have HB23 := Lib.hid hb3
    have HF2 := Lib.hid HL2.out.hiF
    have HP0 := Lib.hid hp0
    clear hL3 ho3 hr3 hb3 hm hll hp0 hcr hchk hchk2 b1 b0 b2 b3 c7 c9 u1 t1 hst7
    go_loopw [46] (fun iv wr => ∃ (j : Nat), j ≤ m ∧ iv = .int .i64 (j : Nat) ∧ IsDev (wrN D (p0 + f) (rows.drop f) j) wr (grow F w3 wr) (.pointer (some ⟨gp, 0, none⟩)) ∧ Only F w3 wr) (fun iv _ => m - (intOf iv).toNat)
    case atStart => exact ⟨0, Nat.zero_le _, rfl, hd3.mono fun b q => .inl q, Only.refl _ _⟩
    case round =>
      clear hd3
      obtain ⟨j, hj, rfl, hd, hO⟩ := hrel
      have nF : ¬ F gl := fun q => HL3.out.dis gl q HL3.out.log.inG
      have hFr : ∀ b, grow F w3 wr b → b < wr.heap.size := fun b q => q.elim (fun z => Nat.lt_of_lt_of_le (HL3.out.hiF b z) hO.size) fun z => z.2
      have kr := HL3.out.log.blk.only hO nF
      have hgood := wrN_good hG (p0 + f) (rows.drop f) j
      rcases Nat.lt_or_ge j m with hlt | hge
      · have e1 : decide ((j : Int) < (m : Int)) = true := by rw [decide_eq_true_iff]; omega
        have e2 : (0 : Int) ≤ (j : Int) := by omega
        have e3 : (j : Int) < (m : Int) := by omega
        have hjr : f + j < rows.length := by rw [List.length_drop] at hrl'; omega
        obtain ⟨ho3, hr3⟩ := HO3.out
        have hjL : f + j < Lr.length := by rw [hr3.1]; exact hjr
        obtain ⟨⟨Ab, cb, hvb⟩, hob, hsb⟩ := hr3.2 (f + j) _ _ (List.getElem?_eq_getElem hjL) (List.getElem?_eq_getElem hjr)
        rw [hvb] at hob
        have hcell : wr.cell? ⟨g, f + j, none⟩ = some (.slice Ab rows[f + j].length cb) := by
          refine (hO.cell (p := ⟨g, f + j, none⟩) hg2 fun q => ?_).trans ?_
          · have := HF2.out g q
            omega
          · rw [ho3.cellAt (f + j) (by rw [← hfm]; omega), List.getElem?_eq_getElem hjL, hvb]
        have hout : BytesIn w3 (fun b => ¬ F b) Ab rows[f + j] := out_own hob hsb HF2.out
        have hidx : (rows.drop f)[j]?.getD [] = rows[f + j] := by rw [List.getElem?_drop, List.getElem?_eq_getElem hjr]; rfl
        have hnx : wrN D (p0 + f) (rows.drop f) (j + 1) = ((wrN D (p0 + f) (rows.drop f) j).write 0 ((p0 + f + j : Nat) : Int) rows[f + j]).2 := by
          rw [← hidx]
          rfl
        generalize rows[f + j] = lb at *
        obtain ⟨q1, hq1⟩ : ∃ q1, p0 + f = q1 := ⟨_, rfl⟩
        obtain ⟨q, hq⟩ : ∃ q, q1 + j = q := ⟨_, rfl⟩
        have V1 : Hid (IntKind.i64.wrap ((p0 : Int) + (f : Int)) = (q1 : Int)) := Lib.hid (by rw [IntKind.wrap_i64]; omega)
        have V2 : Hid (IntKind.i64.wrap ((q1 : Int) + (j : Int)) = (q : Int)) := Lib.hid (by rw [IntKind.wrap_i64]; omega)
        rw [hq1] at hgood hnx hd
        rw [hq1]
        rw [hq] at hnx
        have WR : Hid (∀ W, Below wr.heap.size wr W → Calls Try.prog 63 #[.pointer (some ⟨gp, 0, none⟩), .int .u8 0, .int .i64 (q : Int), .slice Ab lb.length cb] W fun e w' => e = .returned (.int .u16 (((wrN D q1 (rows.drop f) j).write 0 (q : Int) lb).1 : Nat)) ∧ DevPost ((wrN D q1 (rows.drop f) j).write 0 (q : Int) lb).2 (grow F w3 wr) (.pointer (some ⟨gp, 0, none⟩)) W w') := Lib.hid fun W hW =>
          write_any (hd.below hW) (fun b z => Nat.lt_of_lt_of_le (hFr b z) hW.size) hgood (by omega) 0 (by omega) (q : Int) Ab cb lb (out_below (out_post hout hO) hW)
        have FI : Hid (∀ W, Below wr.heap.size wr W → Calls Try.prog 39 #[.pointer (some ⟨gl, 0, none⟩), .int .i64 (L.h.area : Nat)] W fun e w' => e = .returned (.int .i64 (p0 : Int)) ∧ W = w') := Lib.hid fun W hW => by
          have := first_any (kr.below hW kr.lt) (by have := HK.out.strips; omega) L.h.area HK.out.area
          rw [HP0.out] at this
          exact this
        have bd := below_drew0 wr
        have CELLS : Hid (∀ W', Only (grow F w3 wr) wr W' → W'.cell? ⟨gl, 3, none⟩ = some (.int .i64 (L.h.area : Nat)) ∧ W'.cell? ⟨gl, 4, none⟩ = some (.pointer (some ⟨gp, 0, none⟩))) := Lib.hid fun W' ho => by
          have k := kr.only ho fun z => z.elim nF fun y => by have := HL3.out.log.blk.lt; omega
          exact ⟨k.cell 3, k.cell 4⟩
        have x0 := CELLS.out wr.drew (Only.of_below bd _)
        have cf := FI.out wr.drew bd
        have cw := WR.out wr.drew bd
        have NX : Hid (∀ W, DevPost ((wrN D q1 (rows.drop f) j).write 0 (q : Int) lb).2 (grow F w3 wr) (.pointer (some ⟨gp, 0, none⟩)) wr.drew W → IsDev (wrN D q1 (rows.drop f) (j + 1)) W (grow F w3 W) (.pointer (some ⟨gp, 0, none⟩)) ∧ Only F w3 W) := Lib.hid fun W hp => by
          rw [hnx]
          exact ⟨hp.1.mono (grow_grow hO.size hp.2.size), (hO.trans (Only.of_below bd F) fun b z => .inl z).trans hp.2 fun b z => z.imp id fun y => y.1⟩
        obtain ⟨nl, hnl⟩ : ∃ nl, lb.length = nl := ⟨_, rfl⟩
        rw [hnl] at hcell cw
        generalize L.h.area = ar at *
        clear hnx hgood hout hidx hob hsb hvb hjL ho3 hr3 hq1 hq hd hO hFr WR FI hjr hnl kr
        go_upto_region 10 with fail
        have v1 := V1.out
        have v2 := V2.out
        go_region_held3 (fun W' => W'.cell? ⟨gl, 3, none⟩ = some (.int .i64 (ar : Nat)) ∧ W'.cell? ⟨gl, 4, none⟩ = some (.pointer (some ⟨gp, 0, none⟩)))
          (first | with_reducible (exact x0) | with_reducible (exact x2) | fail)
          (first
            | ((with_reducible refine cf.mono ?_); rintro e w4 ⟨rfl, rfl⟩)
            | ((with_reducible refine cw.mono ?_); rintro e w5 ⟨rfl, hp5⟩; have x2 := CELLS.out w5 ((Only.of_below bd _).trans hp5.2 fun b z => .inl z); have H5 := Lib.hid (NX.out w5 hp5))
            | fail)
        all_goals
          clear v1 v2 hp5 cw cf x0 NX CELLS bd
          go_wp2
          go_roundw
          case rel => exact ⟨j + 1, by omega, by go_num, H5.out.1, H5.out.2⟩
          case measure => simp [intOf]; omega
      · obtain rfl : j = m := by omega
        have e1 : decide ((j : Int) < (j : Int)) = false := by rw [decide_eq_false_iff_not]; omega
        have c4 : wr.cell? ⟨gl, 4, none⟩ = some (.pointer (some ⟨gp, 0, none⟩)) := kr.cell 4
        have hsy := sync_any hd hFr hgood (by omega) 0 (by omega)
        rw [← HFD.out] at hsy
        have FIN : Hid (∀ W, DevPost (flushD L D lsn) (grow F w3 wr) (.pointer (some ⟨gp, 0, none⟩)) wr W → W.cell? ⟨gl, 9, none⟩ = some (.int .i64 (la : Nat)) ∧ W.frozen? ⟨gl, 9, none⟩ = false ∧ LgPost (flushL L lsn) (flushD L D lsn) F G gl (.pointer (some ⟨gp, 0, none⟩)) w (W.setCell ⟨gl, 9, none⟩ (.int .i64 (t : Nat)))) := Lib.hid fun W hp => by
          have hp3 : DevPost (flushD L D lsn) F (.pointer (some ⟨gp, 0, none⟩)) w3 W := ⟨hp.1.mono (grow_grow hO.size hp.2.size), hO.trans hp.2 fun b z => z.imp id fun y => y.1⟩
          have hLW := HL3.out.devPost hp3
          have kW := hLW.log.blk
          refine ⟨by rw [← HLA.out]; exact kW.cell 9, kW.frozen 9, ?_⟩
          refine LgPost.lead HB3.out ?_
          refine LgPost.trans (F' := grow F w3 W) (G' := G) (fun b z => z) (fun b z => .inl z) (hp3.2.mono fun b z => .inl (.inl z)) ?_
          rw [HFL.out]
          exact LgPost.box hLW ((Only.refl (fun b => b = gl) W).setCell (p := ⟨gl, 9, none⟩) (.inl rfl) _) (kW.set_ 9 _) rfl rfl
        clear hd hO hFr hgood kr
        go_wp2_with fail
        refine hsy.mono ?_
        rintro e w4 ⟨rfl, hp⟩
        obtain ⟨c9, z9, hf9⟩ := FIN.out w4 hp
        have H := Lib.hid hf9
        clear hp hf9 FIN hsy
        go_wp2
        go_end0
        exact ⟨rfl, H.out⟩
end Go.Proofs.Ytkganajbilnanaa
