/- wal: Flush. Conditions: the log lies there. -/
import Derived.Test.YtkganajbilnanaaGreatYWP
import Derived.Test.YtkganajbilnanaaGreatYStrip
set_option linter.unusedVariables false
set_option linter.unusedSimpArgs false
namespace Go.Proofs.YtkganajbilnanaaGreat
open Go.ChangeShapes Go.WideShapes Go.ChangeAt Go.RowKit
open NumMath
set_option maxRecDepth 20000
theorem wrapi (f : Nat) (h : f < 9223372036854775808) : IntKind.i64.wrap (f : Int) = (f : Int) := by rw [IntKind.wrap_i64]; omega
theorem wrap6 (f : Nat) (h : f < 9223372036854775808) : wrap64 (f : Int) = (f : Int) := by unfold wrap64; omega
theorem grow_grow {F : Nat → Prop} {w w1 w2 w3 : World} (h : w.heap.size ≤ w2.heap.size) (h3 : w1.heap.size ≤ w3.heap.size) : ∀ b, grow (grow F w w1) w2 w3 b → grow F w w3 b := fun b q => by
  rcases q with (q | q) | q
  · exact .inl q
  · exact .inr ⟨q.1, Nat.lt_of_lt_of_le q.2 h3⟩
  · exact .inr ⟨Nat.le_trans h q.1, q.2⟩
structure LogP.ok (L : LogP) : Prop where
  strips : L.strips ≤ 700
  fits : L.h.Fits
  area : L.h.area < 2
  slot : L.slot ≤ 1
  len : L.stream.length ≤ L.strips * 127
  lasts : L.lasts ≤ L.stream.length
  base : L.h.base + L.stream.length < 18446744073709551616
  mono : ∀ (s t a b : Nat), s ≤ t → L.starts[s]? = some a → L.starts[t]? = some b → a ≤ b
  cnt : L.starts.length ≤ 100000
  inn : ∀ x ∈ L.starts, x ≤ L.stream.length
def atP (L : LogP) (lsn : Nat) : Nat × Bool :=
  if lsn < L.h.base then (0, false) else if L.h.base + L.stream.length ≤ lsn then (L.starts.length, false) else (cntP L.starts (lsn - L.h.base), decide (L.starts[cntP L.starts (lsn - L.h.base)]? = some (lsn - L.h.base)))
def kP (L : LogP) (lsn : Nat) : Nat := (atP L lsn).1 + if (atP L lsn).2 = true then 1 else 0
def toP (L : LogP) (lsn : Nat) : Nat := if kP L lsn = 0 then 0 else behindP L.starts L.stream.length (kP L lsn - 1)
def wrN (D : DevP) (p : Nat) (ls : List (List Nat)) : Nat → DevP
  | 0 => D
  | k + 1 => ((wrN D p ls k).write 0 ((p + k : Nat) : Int) (ls[k]?.getD [])).2
def flushS (L : LogP) (t : Nat) : List (List Nat) := (layOf (L.stream.take t)).drop (L.lasts / 127)
def firstP (L : LogP) (area : Nat) : Nat := 2 + area * L.strips
def flushD (L : LogP) (D : DevP) (lsn : Nat) : DevP := if toP L lsn ≤ L.lasts then D else (wrN D (firstP L L.h.area + L.lasts / 127) (flushS L (toP L lsn)) (flushS L (toP L lsn)).length).sync 0
def flushL (L : LogP) (lsn : Nat) : LogP := if toP L lsn ≤ L.lasts then L else { L with lasts := toP L lsn }
theorem wrN_good {D : DevP} {N : Nat} (h : D.good N) (p : Nat) (ls : List (List Nat)) : ∀ k, (wrN D p ls k).good (N + k)
  | 0 => h
  | k + 1 => (wrN_good h p ls k).write 0 _ _
theorem behindP_le {L : LogP} (h : L.ok) (k : Nat) : behindP L.starts L.stream.length k ≤ L.stream.length := by
  unfold behindP
  rcases hq : L.starts[k + 1]? with _ | x
  · exact Nat.le_refl _
  · exact h.inn x (List.mem_of_getElem? hq)
theorem toP_le {L : LogP} (h : L.ok) (lsn : Nat) : toP L lsn ≤ L.stream.length := by
  unfold toP
  split
  · exact Nat.zero_le _
  · exact behindP_le h _
theorem atP_le {L : LogP} (lsn : Nat) : (atP L lsn).1 ≤ L.starts.length := by
  unfold atP
  split
  · exact Nat.zero_le _
  · split
    · exact Nat.le_refl _
    · exact List.countP_le_length
theorem at_lg {L : LogP} {D : DevP} {w : World} {F G : Nat → Prop} {gl : Nat} {pd sv st : Value} (h : Lg L D w F G gl pd sv st) (hk : L.ok) (lsn : Nat) (hl : lsn < 18446744073709551616) :
    Calls Tryz.prog 100 #[.pointer (some ⟨gl, 0, none⟩), .int .u64 (lsn : Nat)] w fun e w' => e = .returned (.tuple #[.int .i64 ((atP L lsn).1 : Nat), .bool (atP L lsn).2]) ∧ Drew w w' := by
  obtain ⟨A, c, rfl, hc, hb⟩ := h.log.bytes
  obtain ⟨As, cs, rfl, hcs, hat⟩ := h.log.places
  have hs := hk.strips
  have hl2 := hk.len
  refine (at_any w.heap.size h.log.blk hat hk.mono hk.cnt hk.base (by omega) lsn hl).mono ?_
  rintro e w' ⟨⟨i, b, rfl, hor⟩, hd⟩
  refine ⟨?_, hd⟩
  have : atP L lsn = (i, b) := by
    unfold atP
    rcases hor with ⟨q1, q2, q3⟩ | ⟨q1, q2, q3, q4⟩ | ⟨q1, q2, q3, q4⟩
    · rw [if_pos q1, q2, q3]
    · rw [if_neg (by omega), if_pos q2, q3, q4]
    · rw [if_neg (by omega), if_neg (by omega), q3, q4]
  rw [this]
theorem behind_lg {L : LogP} {D : DevP} {w : World} {F G : Nat → Prop} {gl : Nat} {pd sv st : Value} (h : Lg L D w F G gl pd sv st) (k : Nat) (hk : k ≤ 1000000) :
    Calls Tryz.prog 103 #[.pointer (some ⟨gl, 0, none⟩), .int .i64 (k : Nat)] w fun e w' => e = .returned (.int .i64 (behindP L.starts L.stream.length k : Nat)) ∧ w = w' := by
  obtain ⟨A, c, rfl, hc, hb⟩ := h.log.bytes
  obtain ⟨As, cs, rfl, hcs, hat⟩ := h.log.places
  exact behind_any w.heap.size k h.log.blk hat hk
set_option maxHeartbeats 8000000 in
theorem flush_any {L : LogP} {D : DevP} {w : World} {F G : Nat → Prop} {gl : Nat} {pd sv st : Value} (h : Lg L D w F G gl pd sv st) (hk : L.ok) {N : Nat} (hG : D.good N) (hN : N + 5000 ≤ 100000) (lsn : Nat) (hlsn : lsn < 18446744073709551616) :
    Calls Tryz.prog 55 #[.pointer (some ⟨gl, 0, none⟩), .int .u64 (lsn : Nat)] w fun e w' => e = .returned (.tuple #[]) ∧ LgPost (flushL L lsn) (flushD L D lsn) F G gl pd w w' := by
  obtain ⟨gp, s0, lv0, X0, rfl, -⟩ := id h.dev
  have cat := at_lg h hk lsn hlsn
  have hkP : kP L lsn = (atP L lsn).1 + if (atP L lsn).2 = true then 1 else 0 := rfl
  have hil := @atP_le L lsn
  have hcn := hk.cnt
  generalize hat : atP L lsn = x at *
  obtain ⟨i, b⟩ := x
  simp only at cat hkP hil
  have HK := Lib.hid hk
  have H0 := Lib.hid h
  have NOP : Hid (toP L lsn ≤ L.lasts → ∀ W, Below w.heap.size w W → LgPost (flushL L lsn) (flushD L D lsn) F G gl (.pointer (some ⟨gp, 0, none⟩)) w W) := Lib.hid fun q W hW => by
    unfold flushL flushD
    rw [if_pos q, if_pos q]
    exact LgPost.below H0.out hW
  clear hat h hk
  go_enter Tryz.func55, Tryz.ntmps55
  go_wp2_with fail
  refine cat.mono ?_
  rintro e w2 ⟨rfl, hd2⟩
  have hB2 := hd2.below w.heap.size
  have HL2 := Lib.hid (H0.out.below hB2)
  have HB2 := Lib.hid hB2
  clear cat hd2 hB2
  cases b with
  | false =>
    rw [if_neg (by simp), Nat.add_zero] at hkP
    rcases Nat.eq_zero_or_pos i with z | z
    · subst z
      have HN := Lib.hid (NOP.out (by unfold toP; rw [if_pos hkP]; exact Nat.zero_le _) w2 HB2.out)
      clear NOP hkP
      go_wp2
      refine bodyPost_ret (results_none rfl _ _ _) rfl ?_
      exact ⟨rfl, HN.out⟩
    · have HKP := Lib.hid hkP
      clear hkP
      obtain ⟨k, rfl⟩ : ∃ k, k = i := ⟨_, rfl⟩
      have V0 : Hid True := Lib.hid trivial
      have t1 : ((k : Int) == 0) = false := by rw [beq_eq_false_iff_ne]; omega
      obtain ⟨j, hj⟩ : ∃ j, k - 1 = j := ⟨_, rfl⟩
      have V1 : Hid (IntKind.i64.wrap ((k : Int) - 1) = (j : Int)) := Lib.hid (by rw [IntKind.wrap_i64]; omega)
      have cbe := behind_lg HL2.out j (by omega)
      have hto : toP L lsn = behindP L.starts L.stream.length j := by unfold toP; rw [HKP.out, if_neg (by omega), hj]
      have htl := toP_le HK.out lsn
      generalize behindP L.starts L.stream.length j = t at *
      rw [hto] at htl
      have HT := Lib.hid hto
      have c9 : w2.cell? ⟨gl, 9, none⟩ = some (.int .i64 (L.lasts : Nat)) := HL2.out.log.blk.cell 9
      obtain ⟨la, hla⟩ : ∃ la, L.lasts = la := ⟨_, rfl⟩
      rw [hla] at c9
      have HLA := Lib.hid hla
      clear hj hto hla
      by_cases htla : t ≤ la
      · have u1 : decide ((t : Int) ≤ (la : Int)) = true := by rw [decide_eq_true_iff]; omega
        have HN := Lib.hid (NOP.out (by rw [HT.out, HLA.out]; exact htla) w2 HB2.out)
        clear NOP htl
        have v1 := V1.out
        have v0 := V0.out
        go_wp2_with fail
        refine cbe.mono ?_
        rintro e w3 ⟨rfl, rfl⟩
        clear cbe
        go_wp2
        refine bodyPost_ret (results_none rfl _ _ _) rfl ?_
        exact ⟨rfl, HN.out⟩
      have u1 : decide ((t : Int) ≤ (la : Int)) = false := by rw [decide_eq_false_iff_not]; omega
      obtain ⟨f, hf⟩ : ∃ f, la / 127 = f := ⟨_, rfl⟩
      have hlst := HK.out.lasts
      have hlen := HK.out.len
      have hstr := HK.out.strips
      rw [HLA.out] at hlst
      obtain ⟨n, hn⟩ : ∃ n, L.stream.length = n := ⟨_, rfl⟩
      rw [hn] at hlst hlen htl
      have hnb : n ≤ 88900 := by omega
      have W2_ : Hid (((la : Int)) / 127 = (f : Int)) := Lib.hid (by omega)
      have W1_ : Hid (((la : Int)).tdiv 127 = (f : Int)) := Lib.hid (by rw [Int.tdiv_eq_ediv_of_nonneg (by omega)]; exact W2_.out)
      have hfb : f ≤ 3000 := by omega
      have hfb2 : f < 9223372036854775808 := by omega
      have W3_ := Lib.hid (wrap6 f hfb2)
      have W4_ := Lib.hid (wrapi f hfb2)
      obtain ⟨Av, cv, hsv, hcv, hbv⟩ := HL2.out.log.bytes
      rw [hn] at hsv hcv
      have c7 : w2.cell? ⟨gl, 7, none⟩ = some (.slice Av n cv) := by rw [← hsv]; exact HL2.out.log.blk.cell 7
      have b1 : (t : Int) ≤ (cv : Int) := by omega
      have b0 : (0 : Int) ≤ (t : Int) := by omega
      have htk : (L.stream.take t).length = t := by rw [List.length_take, hn]; omega
      have clay := lay_any Av (L.stream.take t) cv w2.heap.size (by rw [htk]; omega) (by rw [htk]; omega) w2 (Nat.le_refl _) (hbv.take t)
      have hchk : f < chunks (L.stream.take t) := by unfold chunks; rw [htk]; omega
      have hchk2 : chunks (L.stream.take t) ≤ 3000 := by unfold chunks; rw [htk]; omega
      have hll := layOf_length' (L.stream.take t)
      have HFS : Hid (flushS L (toP L lsn) = (layOf (L.stream.take t)).drop f) := Lib.hid (by rw [HT.out]; unfold flushS; rw [HLA.out, hf])
      rw [htk] at clay
      generalize layOf (L.stream.take t) = rows at *
      generalize chunks (L.stream.take t) = rl at *
      have HN := Lib.hid hn
      have HF := Lib.hid hf
      clear hsv htk hn hbv hf hlst hlen hstr htl NOP
      have w2_ := W2_.out
      have w1_ := W1_.out
      have w3_ := W3_.out
      have v1 := V1.out
      have v0 := V0.out
      go_wp2_with fail
      refine cbe.mono ?_
      rintro e w3 ⟨rfl, rfl⟩
      clear cbe v1 v0
      have w4_ := W4_.out
      go_upto_region 6 with fail
      go_upto_region 7 with fail
      clear w1_ w2_ w3_ w4_
      go_wp2_with fail
      refine clay.mono ?_
      rintro e w3 ⟨vr, Lr, rfl, ho3, hr3, hb3⟩
      obtain ⟨Ar, cr, rfl, hcr, -⟩ := own_form ho3
      obtain ⟨g, rfl, hg1, hg2⟩ := own_pos ho3 (by omega)
      have b2 : (f : Int) ≤ (rl : Int) := by omega
      have b3 : (rl : Int) ≤ (cr : Int) := by omega
      have b4 : (0 : Int) ≤ (f : Int) := by omega
      clear clay
      go_wp2_with fail
      obtain ⟨m, hm⟩ : ∃ m, rl - f = m := ⟨_, rfl⟩
      rw [hm]
      obtain ⟨p0, hp0⟩ : ∃ p0, 2 + L.h.area * L.strips = p0 := ⟨_, rfl⟩
      have hst7 := HK.out.strips
      have hp0b : p0 ≤ 3000 := by
        have h1 := HK.out.area
        have h2 : L.h.area * L.strips ≤ 1 * 700 := Nat.mul_le_mul (by omega) hst7
        omega
      have hm3 : m ≤ 3000 := by omega
      have hfm : f + m = rl := by omega
      have hrl' : (rows.drop f).length = m := by rw [List.length_drop, hll]; exact hm
      have HFD : Hid (flushD L D lsn = (wrN D (p0 + f) (rows.drop f) m).sync 0) := Lib.hid (by
        unfold flushD
        rw [if_neg (by rw [HT.out, HLA.out]; exact htla), HFS.out, hrl']
        unfold firstP
        rw [hp0, HLA.out, HF.out])
      have HFL : Hid (flushL L lsn = { L with lasts := t }) := Lib.hid (by
        unfold flushL
        rw [if_neg (by rw [HT.out, HLA.out]; exact htla), HT.out])
      have hL3 := HL2.out.below hb3
      have HL3 := Lib.hid hL3
      have hd3 := hL3.dev
      have HO3 := Lib.hid (And.intro ho3 hr3)
      have HB3 : Hid (Below w.heap.size w w3) := Lib.hid (HB2.out.trans (hb3.mono HB2.out.size))
      have HB23 := Lib.hid hb3
      have HF2 := Lib.hid HL2.out.hiF
      have HP0 := Lib.hid hp0
      clear hL3 ho3 hr3 hb3 hm hll hp0 hcr hchk hchk2 b1 b0 b2 b3 c7 c9 u1 t1 hst7
      go_loopw [46] (fun iv wr => ∃ (j : Nat), j ≤ m ∧ iv = .int .i64 (j : Nat) ∧ IsDev (wrN D (p0 + f) (rows.drop f) j) wr (grow F w3 wr) (.pointer (some ⟨gp, 0, none⟩)) ∧ Only F w3 wr) (fun iv _ => m - (intOf iv).toNat)
      case atStart => exact ⟨0, Nat.zero_le _, rfl, hd3.mono fun b q => .inl q, Only.refl _ _⟩
      case round =>
        clear hd3
        obtain ⟨j, hj, rfl, hd, hO⟩ := hrel
        have nF : ¬ F gl := fun q => HL3.out.dis gl q HL3.out.log.inG
        have hFr : ∀ b, grow F w3 wr b → b < wr.heap.size := fun b q => q.elim (fun z => Nat.lt_of_lt_of_le (HL3.out.hiF b z) hO.size) fun z => z.2
        have kr := HL3.out.log.blk.only hO nF
        have hgood := wrN_good hG (p0 + f) (rows.drop f) j
        rcases Nat.lt_or_ge j m with hlt | hge
        · have e1 : decide ((j : Int) < (m : Int)) = true := by rw [decide_eq_true_iff]; omega
          have e2 : (0 : Int) ≤ (j : Int) := by omega
          have e3 : (j : Int) < (m : Int) := by omega
          have hjr : f + j < rows.length := by rw [List.length_drop] at hrl'; omega
          obtain ⟨ho3, hr3⟩ := HO3.out
          have hjL : f + j < Lr.length := by rw [hr3.1]; exact hjr
          obtain ⟨⟨Ab, cb, hvb⟩, hob, hsb⟩ := hr3.2 (f + j) _ _ (List.getElem?_eq_getElem hjL) (List.getElem?_eq_getElem hjr)
          rw [hvb] at hob
          have hcell : wr.cell? ⟨g, f + j, none⟩ = some (.slice Ab rows[f + j].length cb) := by
            refine (hO.cell (p := ⟨g, f + j, none⟩) hg2 fun q => ?_).trans ?_
            · have := HF2.out g q
              omega
            · rw [ho3.cellAt (f + j) (by rw [← hfm]; omega), List.getElem?_eq_getElem hjL, hvb]
          have hout : BytesIn w3 (fun b => ¬ F b) Ab rows[f + j] := out_own hob hsb HF2.out
          have hidx : (rows.drop f)[j]?.getD [] = rows[f + j] := by rw [List.getElem?_drop, List.getElem?_eq_getElem hjr]; rfl
          have hnx : wrN D (p0 + f) (rows.drop f) (j + 1) = ((wrN D (p0 + f) (rows.drop f) j).write 0 ((p0 + f + j : Nat) : Int) rows[f + j]).2 := by
            rw [← hidx]
            rfl
          generalize rows[f + j] = lb at *
          obtain ⟨q1, hq1⟩ : ∃ q1, p0 + f = q1 := ⟨_, rfl⟩
          obtain ⟨q, hq⟩ : ∃ q, q1 + j = q := ⟨_, rfl⟩
          have V1 : Hid (IntKind.i64.wrap ((p0 : Int) + (f : Int)) = (q1 : Int)) := Lib.hid (by rw [IntKind.wrap_i64]; omega)
          have V2 : Hid (IntKind.i64.wrap ((q1 : Int) + (j : Int)) = (q : Int)) := Lib.hid (by rw [IntKind.wrap_i64]; omega)
          rw [hq1] at hgood hnx hd
          rw [hq1]
          rw [hq] at hnx
          have WR : Hid (∀ W, Below wr.heap.size wr W → Calls Tryz.prog 79 #[.pointer (some ⟨gp, 0, none⟩), .int .u8 0, .int .i64 (q : Int), .slice Ab lb.length cb] W fun e w' => e = .returned (.int .u16 (((wrN D q1 (rows.drop f) j).write 0 (q : Int) lb).1 : Nat)) ∧ DevPost ((wrN D q1 (rows.drop f) j).write 0 (q : Int) lb).2 (grow F w3 wr) (.pointer (some ⟨gp, 0, none⟩)) W w') := Lib.hid fun W hW =>
            write_any (hd.below hW) (fun b z => Nat.lt_of_lt_of_le (hFr b z) hW.size) hgood (by omega) 0 (by omega) (q : Int) Ab cb lb (out_below (out_post hout hO) hW)
          have FI : Hid (∀ W, Below wr.heap.size wr W → Calls Tryz.prog 26 #[.pointer (some ⟨gl, 0, none⟩), .int .i64 (L.h.area : Nat)] W fun e w' => e = .returned (.int .i64 (p0 : Int)) ∧ W = w') := Lib.hid fun W hW => by
            have := first_any (kr.below hW kr.lt) (by have := HK.out.strips; omega) L.h.area HK.out.area
            rw [HP0.out] at this
            exact this
          have bd := below_drew0 wr
          have CELLS : Hid (∀ W', Only (grow F w3 wr) wr W' → W'.cell? ⟨gl, 3, none⟩ = some (.int .i64 (L.h.area : Nat)) ∧ W'.cell? ⟨gl, 4, none⟩ = some (.pointer (some ⟨gp, 0, none⟩))) := Lib.hid fun W' ho => by
            have k := kr.only ho fun z => z.elim nF fun y => by have := HL3.out.log.blk.lt; omega
            exact ⟨k.cell 3, k.cell 4⟩
          have x0 := CELLS.out wr.drew (Only.of_below bd _)
          have cf := FI.out wr.drew bd
          have cw := WR.out wr.drew bd
          have NX : Hid (∀ W, DevPost ((wrN D q1 (rows.drop f) j).write 0 (q : Int) lb).2 (grow F w3 wr) (.pointer (some ⟨gp, 0, none⟩)) wr.drew W → IsDev (wrN D q1 (rows.drop f) (j + 1)) W (grow F w3 W) (.pointer (some ⟨gp, 0, none⟩)) ∧ Only F w3 W) := Lib.hid fun W hp => by
            rw [hnx]
            exact ⟨hp.1.mono (grow_grow hO.size hp.2.size), (hO.trans (Only.of_below bd F) fun b z => .inl z).trans hp.2 fun b z => z.imp id fun y => y.1⟩
          obtain ⟨nl, hnl⟩ : ∃ nl, lb.length = nl := ⟨_, rfl⟩
          rw [hnl] at hcell cw
          generalize L.h.area = ar at *
          clear hnx hgood hout hidx hob hsb hvb hjL ho3 hr3 hq1 hq hd hO hFr WR FI hjr hnl kr
          go_upto_region 10 with fail
          have v1 := V1.out
          have v2 := V2.out
          go_region_held3 (fun W' => W'.cell? ⟨gl, 3, none⟩ = some (.int .i64 (ar : Nat)) ∧ W'.cell? ⟨gl, 4, none⟩ = some (.pointer (some ⟨gp, 0, none⟩)))
            (first | with_reducible (exact x0) | with_reducible (exact x2) | fail)
            (first
              | ((with_reducible refine cf.mono ?_); rintro e w4 ⟨rfl, rfl⟩)
              | ((with_reducible refine cw.mono ?_); rintro e w5 ⟨rfl, hp5⟩; have x2 := CELLS.out w5 ((Only.of_below bd _).trans hp5.2 fun b z => .inl z); have H5 := Lib.hid (NX.out w5 hp5))
              | fail)
          all_goals
            clear v1 v2 hp5 cw cf x0 NX CELLS bd
            go_wp2
            go_roundw
            case rel => exact ⟨j + 1, by omega, by go_num, H5.out.1, H5.out.2⟩
            case measure => simp [intOf]; omega
        · obtain rfl : j = m := by omega
          have e1 : decide ((j : Int) < (j : Int)) = false := by rw [decide_eq_false_iff_not]; omega
          have c4 : wr.cell? ⟨gl, 4, none⟩ = some (.pointer (some ⟨gp, 0, none⟩)) := kr.cell 4
          have hsy := sync_any hd hFr hgood (by omega) 0 (by omega)
          rw [← HFD.out] at hsy
          have FIN : Hid (∀ W, DevPost (flushD L D lsn) (grow F w3 wr) (.pointer (some ⟨gp, 0, none⟩)) wr W → W.cell? ⟨gl, 9, none⟩ = some (.int .i64 (la : Nat)) ∧ W.frozen? ⟨gl, 9, none⟩ = false ∧ LgPost (flushL L lsn) (flushD L D lsn) F G gl (.pointer (some ⟨gp, 0, none⟩)) w (W.setCell ⟨gl, 9, none⟩ (.int .i64 (t : Nat)))) := Lib.hid fun W hp => by
            have hp3 : DevPost (flushD L D lsn) F (.pointer (some ⟨gp, 0, none⟩)) w3 W := ⟨hp.1.mono (grow_grow hO.size hp.2.size), hO.trans hp.2 fun b z => z.imp id fun y => y.1⟩
            have hLW := HL3.out.devPost hp3
            have kW := hLW.log.blk
            refine ⟨by rw [← HLA.out]; exact kW.cell 9, kW.frozen 9, ?_⟩
            refine LgPost.lead HB3.out ?_
            refine LgPost.trans (F' := grow F w3 W) (G' := G) (fun b z => z) (fun b z => .inl z) (hp3.2.mono fun b z => .inl (.inl z)) ?_
            rw [HFL.out]
            exact LgPost.box hLW ((Only.refl (fun b => b = gl) W).setCell (p := ⟨gl, 9, none⟩) (.inl rfl) _) (kW.set_ 9 _) rfl rfl
          clear hd hO hFr hgood kr
          go_wp2_with fail
          refine hsy.mono ?_
          rintro e w4 ⟨rfl, hp⟩
          obtain ⟨c9, z9, hf9⟩ := FIN.out w4 hp
          have H := Lib.hid hf9
          clear hp hf9 FIN hsy
          go_wp2
          go_end0
          exact ⟨rfl, H.out⟩
  | true =>
    rw [if_pos rfl] at hkP
    obtain ⟨k, hk⟩ : ∃ k, i + 1 = k := ⟨_, rfl⟩
    have V0 : Hid (IntKind.i64.wrap ((i : Int) + 1) = (k : Int)) := Lib.hid (by rw [IntKind.wrap_i64]; omega)
    rw [hk] at hkP
    have HKP := Lib.hid hkP
    have z : 0 < k := by omega
    have hk2 : k ≤ 200000 := by omega
    clear hkP hk hil hcn
    have t1 : ((k : Int) == 0) = false := by rw [beq_eq_false_iff_ne]; omega
    obtain ⟨j, hj⟩ : ∃ j, k - 1 = j := ⟨_, rfl⟩
    have V1 : Hid (IntKind.i64.wrap ((k : Int) - 1) = (j : Int)) := Lib.hid (by rw [IntKind.wrap_i64]; omega)
    have cbe := behind_lg HL2.out j (by omega)
    have hto : toP L lsn = behindP L.starts L.stream.length j := by unfold toP; rw [HKP.out, if_neg (by omega), hj]
    have htl := toP_le HK.out lsn
    generalize behindP L.starts L.stream.length j = t at *
    rw [hto] at htl
    have HT := Lib.hid hto
    have c9 : w2.cell? ⟨gl, 9, none⟩ = some (.int .i64 (L.lasts : Nat)) := HL2.out.log.blk.cell 9
    obtain ⟨la, hla⟩ : ∃ la, L.lasts = la := ⟨_, rfl⟩
    rw [hla] at c9
    have HLA := Lib.hid hla
    clear hj hto hla
    by_cases htla : t ≤ la
    · have u1 : decide ((t : Int) ≤ (la : Int)) = true := by rw [decide_eq_true_iff]; omega
      have HN := Lib.hid (NOP.out (by rw [HT.out, HLA.out]; exact htla) w2 HB2.out)
      clear NOP htl
      have v1 := V1.out
      have v0 := V0.out
      go_wp2_with fail
      refine cbe.mono ?_
      rintro e w3 ⟨rfl, rfl⟩
      clear cbe
      go_wp2
      refine bodyPost_ret (results_none rfl _ _ _) rfl ?_
      exact ⟨rfl, HN.out⟩
    have u1 : decide ((t : Int) ≤ (la : Int)) = false := by rw [decide_eq_false_iff_not]; omega
    obtain ⟨f, hf⟩ : ∃ f, la / 127 = f := ⟨_, rfl⟩
    have hlst := HK.out.lasts
    have hlen := HK.out.len
    have hstr := HK.out.strips
    rw [HLA.out] at hlst
    obtain ⟨n, hn⟩ : ∃ n, L.stream.length = n := ⟨_, rfl⟩
    rw [hn] at hlst hlen htl
    have hnb : n ≤ 88900 := by omega
    have W2_ : Hid (((la : Int)) / 127 = (f : Int)) := Lib.hid (by omega)
    have W1_ : Hid (((la : Int)).tdiv 127 = (f : Int)) := Lib.hid (by rw [Int.tdiv_eq_ediv_of_nonneg (by omega)]; exact W2_.out)
    have hfb : f ≤ 3000 := by omega
    have hfb2 : f < 9223372036854775808 := by omega
    have W3_ := Lib.hid (wrap6 f hfb2)
    have W4_ := Lib.hid (wrapi f hfb2)
    obtain ⟨Av, cv, hsv, hcv, hbv⟩ := HL2.out.log.bytes
    rw [hn] at hsv hcv
    have c7 : w2.cell? ⟨gl, 7, none⟩ = some (.slice Av n cv) := by rw [← hsv]; exact HL2.out.log.blk.cell 7
    have b1 : (t : Int) ≤ (cv : Int) := by omega
    have b0 : (0 : Int) ≤ (t : Int) := by omega
    have htk : (L.stream.take t).length = t := by rw [List.length_take, hn]; omega
    have clay := lay_any Av (L.stream.take t) cv w2.heap.size (by rw [htk]; omega) (by rw [htk]; omega) w2 (Nat.le_refl _) (hbv.take t)
    have hchk : f < chunks (L.stream.take t) := by unfold chunks; rw [htk]; omega
    have hchk2 : chunks (L.stream.take t) ≤ 3000 := by unfold chunks; rw [htk]; omega
    have hll := layOf_length' (L.stream.take t)
    have HFS : Hid (flushS L (toP L lsn) = (layOf (L.stream.take t)).drop f) := Lib.hid (by rw [HT.out]; unfold flushS; rw [HLA.out, hf])
    rw [htk] at clay
    generalize layOf (L.stream.take t) = rows at *
    generalize chunks (L.stream.take t) = rl at *
    have HN := Lib.hid hn
    have HF := Lib.hid hf
    clear hsv htk hn hbv hf hlst hlen hstr htl NOP
    have w2_ := W2_.out
    have w1_ := W1_.out
    have w3_ := W3_.out
    have v1 := V1.out
    have v0 := V0.out
    go_wp2_with fail
    refine cbe.mono ?_
    rintro e w3 ⟨rfl, rfl⟩
    clear cbe v1 v0
    have w4_ := W4_.out
    go_upto_region 6 with fail
    go_upto_region 7 with fail
    clear w1_ w2_ w3_ w4_
    go_wp2_with fail
    refine clay.mono ?_
    rintro e w3 ⟨vr, Lr, rfl, ho3, hr3, hb3⟩
    obtain ⟨Ar, cr, rfl, hcr, -⟩ := own_form ho3
    obtain ⟨g, rfl, hg1, hg2⟩ := own_pos ho3 (by omega)
    have b2 : (f : Int) ≤ (rl : Int) := by omega
    have b3 : (rl : Int) ≤ (cr : Int) := by omega
    have b4 : (0 : Int) ≤ (f : Int) := by omega
    clear clay
    go_wp2_with fail
    obtain ⟨m, hm⟩ : ∃ m, rl - f = m := ⟨_, rfl⟩
    rw [hm]
    obtain ⟨p0, hp0⟩ : ∃ p0, 2 + L.h.area * L.strips = p0 := ⟨_, rfl⟩
    have hst7 := HK.out.strips
    have hp0b : p0 ≤ 3000 := by
      have h1 := HK.out.area
      have h2 : L.h.area * L.strips ≤ 1 * 700 := Nat.mul_le_mul (by omega) hst7
      omega
    have hm3 : m ≤ 3000 := by omega
    have hfm : f + m = rl := by omega
    have hrl' : (rows.drop f).length = m := by rw [List.length_drop, hll]; exact hm
    have HFD : Hid (flushD L D lsn = (wrN D (p0 + f) (rows.drop f) m).sync 0) := Lib.hid (by
      unfold flushD
      rw [if_neg (by rw [HT.out, HLA.out]; exact htla), HFS.out, hrl']
      unfold firstP
      rw [hp0, HLA.out, HF.out])
    have HFL : Hid (flushL L lsn = { L with lasts := t }) := Lib.hid (by
      unfold flushL
      rw [if_neg (by rw [HT.out, HLA.out]; exact htla), HT.out])
    have hL3 := HL2.out.below hb3
    have HL3 := Lib.hid hL3
    have hd3 := hL3.dev
    have HO3 := Lib.hid (And.intro ho3 hr3)
    have HB3 : Hid (Below w.heap.size w w3) := Lib.hid (HB2.out.trans (hb3.mono HB2.out.size))
    have HB23 := Lib.hid hb3
    have HF2 := Lib.hid HL2.out.hiF
    have HP0 := Lib.hid hp0
    clear hL3 ho3 hr3 hb3 hm hll hp0 hcr hchk hchk2 b1 b0 b2 b3 c7 c9 u1 t1 hst7
    go_loopw [46] (fun iv wr => ∃ (j : Nat), j ≤ m ∧ iv = .int .i64 (j : Nat) ∧ IsDev (wrN D (p0 + f) (rows.drop f) j) wr (grow F w3 wr) (.pointer (some ⟨gp, 0, none⟩)) ∧ Only F w3 wr) (fun iv _ => m - (intOf iv).toNat)
    case atStart => exact ⟨0, Nat.zero_le _, rfl, hd3.mono fun b q => .inl q, Only.refl _ _⟩
    case round =>
      clear hd3
      obtain ⟨j, hj, rfl, hd, hO⟩ := hrel
      have nF : ¬ F gl := fun q => HL3.out.dis gl q HL3.out.log.inG
      have hFr : ∀ b, grow F w3 wr b → b < wr.heap.size := fun b q => q.elim (fun z => Nat.lt_of_lt_of_le (HL3.out.hiF b z) hO.size) fun z => z.2
      have kr := HL3.out.log.blk.only hO nF
      have hgood := wrN_good hG (p0 + f) (rows.drop f) j
      rcases Nat.lt_or_ge j m with hlt | hge
      · have e1 : decide ((j : Int) < (m : Int)) = true := by rw [decide_eq_true_iff]; omega
        have e2 : (0 : Int) ≤ (j : Int) := by omega
        have e3 : (j : Int) < (m : Int) := by omega
        have hjr : f + j < rows.length := by rw [List.length_drop] at hrl'; omega
        obtain ⟨ho3, hr3⟩ := HO3.out
        have hjL : f + j < Lr.length := by rw [hr3.1]; exact hjr
        obtain ⟨⟨Ab, cb, hvb⟩, hob, hsb⟩ := hr3.2 (f + j) _ _ (List.getElem?_eq_getElem hjL) (List.getElem?_eq_getElem hjr)
        rw [hvb] at hob
        have hcell : wr.cell? ⟨g, f + j, none⟩ = some (.slice Ab rows[f + j].length cb) := by
          refine (hO.cell (p := ⟨g, f + j, none⟩) hg2 fun q => ?_).trans ?_
          · have := HF2.out g q
            omega
          · rw [ho3.cellAt (f + j) (by rw [← hfm]; omega), List.getElem?_eq_getElem hjL, hvb]
        have hout : BytesIn w3 (fun b => ¬ F b) Ab rows[f + j] := out_own hob hsb HF2.out
        have hidx : (rows.drop f)[j]?.getD [] = rows[f + j] := by rw [List.getElem?_drop, List.getElem?_eq_getElem hjr]; rfl
        have hnx : wrN D (p0 + f) (rows.drop f) (j + 1) = ((wrN D (p0 + f) (rows.drop f) j).write 0 ((p0 + f + j : Nat) : Int) rows[f + j]).2 := by
          rw [← hidx]
          rfl
        generalize rows[f + j] = lb at *
        obtain ⟨q1, hq1⟩ : ∃ q1, p0 + f = q1 := ⟨_, rfl⟩
        obtain ⟨q, hq⟩ : ∃ q, q1 + j = q := ⟨_, rfl⟩
        have V1 : Hid (IntKind.i64.wrap ((p0 : Int) + (f : Int)) = (q1 : Int)) := Lib.hid (by rw [IntKind.wrap_i64]; omega)
        have V2 : Hid (IntKind.i64.wrap ((q1 : Int) + (j : Int)) = (q : Int)) := Lib.hid (by rw [IntKind.wrap_i64]; omega)
        rw [hq1] at hgood hnx hd
        rw [hq1]
        rw [hq] at hnx
        have WR : Hid (∀ W, Below wr.heap.size wr W → Calls Tryz.prog 79 #[.pointer (some ⟨gp, 0, none⟩), .int .u8 0, .int .i64 (q : Int), .slice Ab lb.length cb] W fun e w' => e = .returned (.int .u16 (((wrN D q1 (rows.drop f) j).write 0 (q : Int) lb).1 : Nat)) ∧ DevPost ((wrN D q1 (rows.drop f) j).write 0 (q : Int) lb).2 (grow F w3 wr) (.pointer (some ⟨gp, 0, none⟩)) W w') := Lib.hid fun W hW =>
          write_any (hd.below hW) (fun b z => Nat.lt_of_lt_of_le (hFr b z) hW.size) hgood (by omega) 0 (by omega) (q : Int) Ab cb lb (out_below (out_post hout hO) hW)
        have FI : Hid (∀ W, Below wr.heap.size wr W → Calls Tryz.prog 26 #[.pointer (some ⟨gl, 0, none⟩), .int .i64 (L.h.area : Nat)] W fun e w' => e = .returned (.int .i64 (p0 : Int)) ∧ W = w') := Lib.hid fun W hW => by
          have := first_any (kr.below hW kr.lt) (by have := HK.out.strips; omega) L.h.area HK.out.area
          rw [HP0.out] at this
          exact this
        have bd := below_drew0 wr
        have CELLS : Hid (∀ W', Only (grow F w3 wr) wr W' → W'.cell? ⟨gl, 3, none⟩ = some (.int .i64 (L.h.area : Nat)) ∧ W'.cell? ⟨gl, 4, none⟩ = some (.pointer (some ⟨gp, 0, none⟩))) := Lib.hid fun W' ho => by
          have k := kr.only ho fun z => z.elim nF fun y => by have := HL3.out.log.blk.lt; omega
          exact ⟨k.cell 3, k.cell 4⟩
        have x0 := CELLS.out wr.drew (Only.of_below bd _)
        have cf := FI.out wr.drew bd
        have cw := WR.out wr.drew bd
        have NX : Hid (∀ W, DevPost ((wrN D q1 (rows.drop f) j).write 0 (q : Int) lb).2 (grow F w3 wr) (.pointer (some ⟨gp, 0, none⟩)) wr.drew W → IsDev (wrN D q1 (rows.drop f) (j + 1)) W (grow F w3 W) (.pointer (some ⟨gp, 0, none⟩)) ∧ Only F w3 W) := Lib.hid fun W hp => by
          rw [hnx]
          exact ⟨hp.1.mono (grow_grow hO.size hp.2.size), (hO.trans (Only.of_below bd F) fun b z => .inl z).trans hp.2 fun b z => z.imp id fun y => y.1⟩
        obtain ⟨nl, hnl⟩ : ∃ nl, lb.length = nl := ⟨_, rfl⟩
        rw [hnl] at hcell cw
        generalize L.h.area = ar at *
        clear hnx hgood hout hidx hob hsb hvb hjL ho3 hr3 hq1 hq hd hO hFr WR FI hjr hnl kr
        go_upto_region 10 with fail
        have v1 := V1.out
        have v2 := V2.out
        go_region_held3 (fun W' => W'.cell? ⟨gl, 3, none⟩ = some (.int .i64 (ar : Nat)) ∧ W'.cell? ⟨gl, 4, none⟩ = some (.pointer (some ⟨gp, 0, none⟩)))
          (first | with_reducible (exact x0) | with_reducible (exact x2) | fail)
          (first
            | ((with_reducible refine cf.mono ?_); rintro e w4 ⟨rfl, rfl⟩)
            | ((with_reducible refine cw.mono ?_); rintro e w5 ⟨rfl, hp5⟩; have x2 := CELLS.out w5 ((Only.of_below bd _).trans hp5.2 fun b z => .inl z); have H5 := Lib.hid (NX.out w5 hp5))
            | fail)
        all_goals
          clear v1 v2 hp5 cw cf x0 NX CELLS bd
          go_wp2
          go_roundw
          case rel => exact ⟨j + 1, by omega, by go_num, H5.out.1, H5.out.2⟩
          case measure => simp [intOf]; omega
      · obtain rfl : j = m := by omega
        have e1 : decide ((j : Int) < (j : Int)) = false := by rw [decide_eq_false_iff_not]; omega
        have c4 : wr.cell? ⟨gl, 4, none⟩ = some (.pointer (some ⟨gp, 0, none⟩)) := kr.cell 4
        have hsy := sync_any hd hFr hgood (by omega) 0 (by omega)
        rw [← HFD.out] at hsy
        have FIN : Hid (∀ W, DevPost (flushD L D lsn) (grow F w3 wr) (.pointer (some ⟨gp, 0, none⟩)) wr W → W.cell? ⟨gl, 9, none⟩ = some (.int .i64 (la : Nat)) ∧ W.frozen? ⟨gl, 9, none⟩ = false ∧ LgPost (flushL L lsn) (flushD L D lsn) F G gl (.pointer (some ⟨gp, 0, none⟩)) w (W.setCell ⟨gl, 9, none⟩ (.int .i64 (t : Nat)))) := Lib.hid fun W hp => by
          have hp3 : DevPost (flushD L D lsn) F (.pointer (some ⟨gp, 0, none⟩)) w3 W := ⟨hp.1.mono (grow_grow hO.size hp.2.size), hO.trans hp.2 fun b z => z.imp id fun y => y.1⟩
          have hLW := HL3.out.devPost hp3
          have kW := hLW.log.blk
          refine ⟨by rw [← HLA.out]; exact kW.cell 9, kW.frozen 9, ?_⟩
          refine LgPost.lead HB3.out ?_
          refine LgPost.trans (F' := grow F w3 W) (G' := G) (fun b z => z) (fun b z => .inl z) (hp3.2.mono fun b z => .inl (.inl z)) ?_
          rw [HFL.out]
          exact LgPost.box hLW ((Only.refl (fun b => b = gl) W).setCell (p := ⟨gl, 9, none⟩) (.inl rfl) _) (kW.set_ 9 _) rfl rfl
        clear hd hO hFr hgood kr
        go_wp2_with fail
        refine hsy.mono ?_
        rintro e w4 ⟨rfl, hp⟩
        obtain ⟨c9, z9, hf9⟩ := FIN.out w4 hp
        have H := Lib.hid hf9
        clear hp hf9 FIN hsy
        go_wp2
        go_end0
        exact ⟨rfl, H.out⟩
def topN : Nat := 18446744073709551615
def markM (L : LogP) (lsn : Nat) : LogP := { flushL L topN with h := { (flushL L topN).h with check := lsn } }
def markL (L : LogP) (lsn : Nat) : LogP := sayL (markM L lsn)
def markD (L : LogP) (D : DevP) (lsn : Nat) : DevP := sayD (markM L lsn) (flushD L D topN)
def renewM (L : LogP) : LogP := ⟨⟨L.h.stamp, L.h.base + L.stream.length, 0, 1 - L.h.area⟩, L.strips, L.slot, [], [], 0⟩
def renewL (L : LogP) : LogP := sayL (renewM L)
def renewD (L : LogP) (D : DevP) : DevP := sayD (renewM L) (makeP (flushD L D topN) (firstP L (1 - L.h.area)) L.strips [])
theorem flushL_h (L : LogP) (lsn : Nat) : (flushL L lsn).h = L.h := by unfold flushL; split <;> rfl
theorem flushL_slot (L : LogP) (lsn : Nat) : (flushL L lsn).slot = L.slot := by unfold flushL; split <;> rfl
theorem flushL_strips (L : LogP) (lsn : Nat) : (flushL L lsn).strips = L.strips := by unfold flushL; split <;> rfl
theorem flushL_stream (L : LogP) (lsn : Nat) : (flushL L lsn).stream = L.stream := by unfold flushL; split <;> rfl
theorem flushL_starts (L : LogP) (lsn : Nat) : (flushL L lsn).starts = L.starts := by unfold flushL; split <;> rfl
theorem flushL_lasts (L : LogP) (lsn : Nat) : (flushL L lsn).lasts = max L.lasts (toP L lsn) := by
  unfold flushL
  split
  · omega
  · show toP L lsn = _
    omega
theorem flushL_ok {L : LogP} (h : L.ok) (lsn : Nat) : (flushL L lsn).ok := by
  refine ⟨?_, ?_, ?_, ?_, ?_, ?_, ?_, ?_, ?_, ?_⟩
  · rw [flushL_strips]; exact h.strips
  · rw [flushL_h]; exact h.fits
  · rw [flushL_h]; exact h.area
  · rw [flushL_slot]; exact h.slot
  · rw [flushL_strips, flushL_stream]; exact h.len
  · rw [flushL_lasts, flushL_stream]
    have := h.lasts
    have := toP_le h lsn
    omega
  · rw [flushL_h, flushL_stream]; exact h.base
  · rw [flushL_starts]; exact h.mono
  · rw [flushL_starts]; exact h.cnt
  · rw [flushL_starts, flushL_stream]; exact h.inn
theorem flushS_length {L : LogP} (h : L.ok) (t : Nat) : (flushS L t).length ≤ 701 := by
  unfold flushS
  rw [List.length_drop, layOf_length']
  have h1 := h.len
  have h2 := h.strips
  have h3 : (L.stream.take t).length ≤ L.stream.length := by rw [List.length_take]; omega
  unfold chunks
  omega
theorem flushD_good {L : LogP} (h : L.ok) {D : DevP} {N : Nat} (hG : D.good N) (lsn : Nat) : (flushD L D lsn).good (N + 701) := by
  unfold flushD
  split
  · exact hG.mono (by omega)
  · exact ((wrN_good hG _ _ _).sync 0).mono (by have := flushS_length h (toP L lsn); omega)
set_option maxHeartbeats 8000000 in
theorem mark_any {L : LogP} {D : DevP} {w : World} {F G : Nat → Prop} {gl : Nat} {pd sv st : Value} (h : Lg L D w F G gl pd sv st) (hk : L.ok) {N : Nat} (hG : D.good N) (hN : N + 6000 ≤ 100000) (lsn : Nat) (hlsn : lsn < 18446744073709551616) :
    Calls Tryz.prog 57 #[.pointer (some ⟨gl, 0, none⟩), .int .u64 (lsn : Nat)] w fun e w' => e = .returned (.tuple #[]) ∧ LgPost (markL L lsn) (markD L D lsn) F G gl pd w w' := by
  have cfl : Calls Tryz.prog 55 #[.pointer (some ⟨gl, 0, none⟩), .int .u64 18446744073709551615] w fun e w' => e = .returned (.tuple #[]) ∧ LgPost (flushL L topN) (flushD L D topN) F G gl pd w w' := flush_any h hk hG (by omega) topN (by decide)
  have hgd := flushD_good hk hG topN
  have hok := flushL_ok hk topN
  have hM : markM L lsn = { flushL L topN with h := { (flushL L topN).h with check := lsn } } := rfl
  have hL : markL L lsn = sayL (markM L lsn) := rfl
  have hD : markD L D lsn = sayD (markM L lsn) (flushD L D topN) := rfl
  rw [hL, hD]
  generalize markM L lsn = LM at *
  generalize flushL L topN = L1 at *
  generalize flushD L D topN = D1 at *
  have HM := Lib.hid hM
  clear hL hD hk hG h hM
  go_enter Tryz.func57, Tryz.ntmps57
  go_wp2_with fail
  refine cfl.mono ?_
  rintro e w2 ⟨rfl, F1, G1, sv1, st1, hL1, hF1, hG1, hO1⟩
  have k1 := hL1.log.blk
  have c2 : w2.cell? ⟨gl, 2, none⟩ = some (.int .u64 (L1.h.check : Nat)) := k1.cell 2
  have z2 : w2.frozen? ⟨gl, 2, none⟩ = false := k1.frozen 2
  have oW : Only (fun b => b = gl) w2 (w2.setCell ⟨gl, 2, none⟩ (.int .u64 (lsn : Nat))) := (Only.refl (fun b => b = gl) w2).setCell (p := ⟨gl, 2, none⟩) (.inl rfl) _
  have hLW : Lg LM D1 (w2.setCell ⟨gl, 2, none⟩ (.int .u64 (lsn : Nat))) F1 G1 gl pd sv1 st1 := by
    rw [HM.out]
    exact hL1.box oW (k1.set_ 2 _) rfl rfl
  have hfit : LM.h.Fits := by rw [HM.out]; exact ⟨hok.fits.1, hok.fits.2.1, hlsn, hok.fits.2.2.2⟩
  have hslot : LM.slot ≤ 1 := by rw [HM.out]; exact hok.slot
  have HLW := Lib.hid hLW
  have FIN : Hid (∀ W, LgPost (sayL LM) (sayD LM D1) F1 G1 gl pd (w2.setCell ⟨gl, 2, none⟩ (.int .u64 (lsn : Nat))) W → LgPost (sayL LM) (sayD LM D1) F G gl pd w W) := Lib.hid fun W hp => by
    refine LgPost.trans hF1 hG1 hO1 ?_
    refine LgPost.trans (F' := F1) (G' := G1) (fun b q => .inl q) (fun b q => .inl q) (oW.mono fun b e => .inl (.inr (by rw [e]; exact hL1.log.inG))) hp
  clear cfl hL1 hF1 hG1 hO1 k1 oW hLW
  go_upto_region 2 with fail
  generalize World.setCell _ _ _ = W at *
  have csy := say_any HLW.out hfit hslot hgd (by omega)
  go_wp2_with fail
  refine csy.mono ?_
  rintro e w3 ⟨rfl, hp⟩
  have H := Lib.hid (FIN.out w3 hp)
  clear hp FIN csy HLW
  go_wp2
  go_end0
  exact ⟨rfl, H.out⟩
theorem Lg.clear {L L' : LogP} {D : DevP} {w w' : World} {F G : Nat → Prop} {gl : Nat} {pd sv st : Value} (h : Lg L D w F G gl pd sv st) (ho : Only (fun b => b = gl) w w') (hb : Blk w' gl 82 (logV L'.h pd L'.strips L'.slot (.slice none 0 0) (.slice none 0 0) L'.lasts)) (h1 : L'.stream = []) (h2 : L'.starts = []) : Lg L' D w' F G gl pd (.slice none 0 0) (.slice none 0 0) :=
  ⟨h.dev.only ho fun b q e => by subst e; exact h.dis b q h.log.inG, ⟨hb, h.log.inG, by rw [h1]; exact Strm.nil _ _, by rw [h2]; exact World.ownsRow_nil _ _ _ _, fun b e => by cases e⟩, h.dis, fun b q => Nat.lt_of_lt_of_le (h.hiF b q) ho.size, fun b q => Nat.lt_of_lt_of_le (h.hiG b q) ho.size⟩
theorem makeP_good1 {D : DevP} {N : Nat} (h : D.good N) (p n : Nat) (hn : n ≤ 700) (want : List (List Nat)) : (makeP D p n want).good (N + 700) := (makeP_good h p n want).mono (by omega)
set_option maxHeartbeats 8000000 in
theorem renew_any {L : LogP} {D : DevP} {w : World} {F G : Nat → Prop} {gl : Nat} {pd sv st : Value} (h : Lg L D w F G gl pd sv st) (hk : L.ok) {N : Nat} (hG : D.good N) (hN : N + 6000 ≤ 100000) :
    Calls Tryz.prog 59 #[.pointer (some ⟨gl, 0, none⟩)] w fun e w' => e = .returned (.tuple #[]) ∧ LgPost (renewL L) (renewD L D) F G gl pd w w' := by
  obtain ⟨gp, s0, lv0, X0, rfl, -⟩ := id h.dev
  have cfl : Calls Tryz.prog 55 #[.pointer (some ⟨gl, 0, none⟩), .int .u64 18446744073709551615] w fun e w' => e = .returned (.tuple #[]) ∧ LgPost (flushL L topN) (flushD L D topN) F G gl (.pointer (some ⟨gp, 0, none⟩)) w w' := flush_any h hk hG (by omega) topN (by decide)
  have hgd := flushD_good hk hG topN
  have hok := flushL_ok hk topN
  have e1 := flushL_h L topN
  have e2 := flushL_slot L topN
  have e3 := flushL_strips L topN
  have e4 := flushL_stream L topN
  have hL : renewL L = sayL (renewM L) := rfl
  have hD : renewD L D = sayD (renewM L) (makeP (flushD L D topN) (firstP L (1 - L.h.area)) L.strips []) := rfl
  have hM : renewM L = ⟨⟨L.h.stamp, L.h.base + L.stream.length, 0, 1 - L.h.area⟩, L.strips, L.slot, [], [], 0⟩ := rfl
  have hP : firstP L (1 - L.h.area) = 2 + (1 - L.h.area) * L.strips := rfl
  rw [hL, hD]
  generalize flushL L topN = L1 at *
  generalize flushD L D topN = D1 at *
  generalize renewM L = LM at *
  generalize firstP L (1 - L.h.area) = p0 at *
  have hst := hk.strips
  have har := hk.area
  have hbase := hk.base
  rw [← e1, ← e2, ← e3, ← e4] at hM
  rw [← e3, ← e1] at hP
  rw [← e1, ← e4] at hbase
  rw [← e1] at har
  rw [← e3] at hst
  rw [← e3]
  clear hL hD h hG hk e1 e2 e3 e4
  obtain ⟨⟨stamp, base, check, area⟩, strips, slot, stream, starts, lasts⟩ := L1
  simp only at *
  obtain ⟨na, hna⟩ : ∃ na, 1 - area = na := ⟨_, rfl⟩
  obtain ⟨n, hn⟩ : ∃ n, stream.length = n := ⟨_, rfl⟩
  rw [hna] at hM hP
  rw [hn] at hM hbase
  obtain ⟨b2, hb2⟩ : ∃ b2, base + n = b2 := ⟨_, rfl⟩
  rw [hb2] at hM hbase
  have HB2 := Lib.hid hb2
  have hp0 : p0 ≤ 3000 := by
    have h2 : na * strips ≤ 1 * 700 := Nat.mul_le_mul (by omega) hst
    omega
  have V1 : Hid (IntKind.i64.wrap (1 - (area : Int)) = (na : Int)) := Lib.hid (by rw [IntKind.wrap_i64]; omega)
  have hna2 : na < 2 := by omega
  have hna3 : na < 256 := by omega
  have HM := Lib.hid hM
  have HN := Lib.hid hn
  have HOK := Lib.hid hok
  have hmg := makeP_good1 hgd p0 strips hst []
  clear hM hna hn hok hb2
  go_enter Tryz.func59, Tryz.ntmps59
  go_wp2_with fail
  refine cfl.mono ?_
  rintro e w2 ⟨rfl, F1, G1, sv1, st1, hL1, hF1, hG1, hO1⟩
  have k1 := hL1.log.blk
  have HL1 := Lib.hid hL1
  have nF : ¬ F1 gl := fun q => hL1.dis gl q hL1.log.inG
  have bd := below_drew0 w2
  have FI : Calls Tryz.prog 26 #[.pointer (some ⟨gl, 0, none⟩), .int .i64 (na : Nat)] w2.drew fun e w' => e = .returned (.int .i64 (p0 : Int)) ∧ w2.drew = w' := by
    have := first_any (k1.below bd k1.lt) (by exact Nat.le_trans hst (by decide)) na hna2
    rw [show 2 + na * strips = p0 from hP.symm] at this
    exact this
  have cmk : Calls Tryz.prog 29 #[.pointer (some ⟨gl, 0, none⟩), .int .i64 (p0 : Nat), .int .i64 (strips : Nat), .slice none 0 0] w2.drew fun e w' => e = .returned (.tuple #[]) ∧ DevPost (makeP D1 p0 strips []) F1 (.pointer (some ⟨gp, 0, none⟩)) w2.drew w' := make_any (hL1.drew).dev (hL1.drew).hiF hgd (hL1.drew).log.blk nF p0 strips (by omega) (by omega) (by omega) none 0 [] [] (fun j hj => absurd hj (by simp)) (Outs.nil _ _) (by simp) (fun l hl => by cases hl)
  have CELLS : Hid (∀ W', Only F1 w2 W' → W'.cell? ⟨gl, 3, none⟩ = some (.int .i64 (area : Nat)) ∧ W'.cell? ⟨gl, 5, none⟩ = some (.int .i64 (strips : Nat))) := Lib.hid fun W' ho => by
    have k := k1.only ho nF
    exact ⟨k.cell 3, k.cell 5⟩
  have x0 := CELLS.out w2.drew (Only.of_below bd _)
  have FIN : Hid (∀ w5 w6 w7, DevPost (makeP D1 p0 strips []) F1 (.pointer (some ⟨gp, 0, none⟩)) w2.drew w5 → Only (fun b => b = gl) w5 w6 → LgPost (sayL LM) (sayD LM (makeP D1 p0 strips [])) (grow F1 w2.drew w5) G1 gl (.pointer (some ⟨gp, 0, none⟩)) w6 w7 → LgPost (sayL LM) (sayD LM (makeP D1 p0 strips [])) F G gl (.pointer (some ⟨gp, 0, none⟩)) w w7) := Lib.hid fun w5 w6 w7 h1 h2 h3 => by
    refine LgPost.trans hF1 hG1 hO1 ?_
    refine LgPost.lead bd ?_
    refine LgPost.trans (F' := grow F1 w2.drew w5) (G' := G1) (fun b q => q) (fun b q => .inl q) (h1.2.mono fun b q => .inl (.inl q)) ?_
    exact LgPost.trans (F' := grow F1 w2.drew w5) (G' := G1) (fun b q => .inl q) (fun b q => .inl q) (h2.mono fun b e => .inl (.inr (by rw [e]; exact HL1.out.log.inG))) h3
  have BD := Lib.hid bd
  clear cfl hL1 hF1 hG1 hO1 k1 hP hp0 hna2 har bd
  go_upto_region 1 with fail
  go_cut [] (fun wx => DevPost (makeP D1 p0 strips []) F1 (.pointer (some ⟨gp, 0, none⟩)) w2.drew wx)
  case first =>
    have v1 := V1.out
    go_wp2_with fail
    go_region_held3 (fun W' => W'.cell? ⟨gl, 3, none⟩ = some (.int .i64 (area : Nat)) ∧ W'.cell? ⟨gl, 5, none⟩ = some (.int .i64 (strips : Nat)))
      (first | with_reducible (exact x0) | with_reducible (exact x2) | fail)
      (first
        | ((with_reducible refine FI.mono ?_); rintro e w4 ⟨rfl, rfl⟩)
        | ((with_reducible refine cmk.mono ?_); rintro e w5 ⟨rfl, hp5⟩; have x2 := CELLS.out w5 ((Only.of_below BD.out _).trans hp5.2 fun b z => .inl z); have H5 := Lib.hid hp5)
        | fail)
    all_goals
      clear v1
      go_wp2
      go_meet
      case rel => exact H5.out
  case rest =>
    rename World => w5
    clear x0 CELLS cmk FI
    have hL5 := HL1.out.drew.devPost hcut
    have k5 := hL5.log.blk
    obtain ⟨Av, cv, rfl, hcv, -⟩ := hL5.log.bytes
    have cend := end_any k5 (by rw [HN.out, HB2.out]; exact hbase)
    rw [show stream.length = n from HN.out, show base + n = b2 from HB2.out] at cend
    clear k5 hcv
    go_wp2_with fail
    refine cend.mono ?_
    rintro e w6 ⟨rfl, hd6⟩
    have hB6 := hd6.below w5.heap.size
    have hL6 := hL5.below hB6
    have k6 := hL6.log.blk
    have c1 : w6.cell? ⟨gl, 1, none⟩ = some (.int .u64 (base : Nat)) := k6.cell 1
    have c2 : w6.cell? ⟨gl, 2, none⟩ = some (.int .u64 (check : Nat)) := k6.cell 2
    have c3 : w6.cell? ⟨gl, 3, none⟩ = some (.int .i64 (area : Nat)) := k6.cell 3
    have c7 : w6.cell? ⟨gl, 7, none⟩ = some (.slice Av n cv) := by rw [← HN.out]; exact k6.cell 7
    have c8 : w6.cell? ⟨gl, 8, none⟩ = some st1 := k6.cell 8
    have c9 : w6.cell? ⟨gl, 9, none⟩ = some (.int .i64 (lasts : Nat)) := k6.cell 9
    have z1 : w6.frozen? ⟨gl, 1, none⟩ = false := k6.frozen 1
    have z2 : w6.frozen? ⟨gl, 2, none⟩ = false := k6.frozen 2
    have z3 : w6.frozen? ⟨gl, 3, none⟩ = false := k6.frozen 3
    have z7 : w6.frozen? ⟨gl, 7, none⟩ = false := k6.frozen 7
    have z8 : w6.frozen? ⟨gl, 8, none⟩ = false := k6.frozen 8
    have z9 : w6.frozen? ⟨gl, 9, none⟩ = false := k6.frozen 9
    obtain ⟨W, hW⟩ : ∃ W, (((((w6.setCell ⟨gl, 1, none⟩ (.int .u64 (b2 : Nat))).setCell ⟨gl, 3, none⟩ (.int .i64 (na : Nat))).setCell ⟨gl, 7, none⟩ (.slice none 0 0)).setCell ⟨gl, 8, none⟩ (.slice none 0 0)).setCell ⟨gl, 9, none⟩ (.int .i64 0)).setCell ⟨gl, 2, none⟩ (.int .u64 0) = W := ⟨_, rfl⟩
    have kW : Blk W gl 82 (logV LM.h (.pointer (some ⟨gp, 0, none⟩)) LM.strips LM.slot (.slice none 0 0) (.slice none 0 0) LM.lasts) := by
      rw [HM.out, ← hW]
      exact (((((k6.set_ 1 _).set_ 3 _).set_ 7 _).set_ 8 _).set_ 9 _).set_ 2 _
    have oW : Only (fun b => b = gl) w6 W := by
      rw [← hW]
      exact ((((((Only.refl (fun b => b = gl) w6).setCell (p := ⟨gl, 1, none⟩) (.inl rfl) _).setCell (p := ⟨gl, 3, none⟩) (.inl rfl) _).setCell (p := ⟨gl, 7, none⟩) (.inl rfl) _).setCell (p := ⟨gl, 8, none⟩) (.inl rfl) _).setCell (p := ⟨gl, 9, none⟩) (.inl rfl) _).setCell (p := ⟨gl, 2, none⟩) (.inl rfl) _
    have hLW := Lg.clear hL6 oW kW (by rw [HM.out]) (by rw [HM.out])
    have HLW := Lib.hid hLW
    have HO5 : Hid (Only (fun b => b = gl) w5 W) := Lib.hid ((Only.of_below hB6 (fun b => b = gl)).trans oW fun b e => .inl e)
    have HC := Lib.hid hcut
    have hfit : LM.h.Fits := by
      rw [HM.out]
      exact ⟨HOK.out.fits.1, hbase, (by decide : (0 : Nat) < 18446744073709551616), hna3⟩
    have hslot : LM.slot ≤ 1 := by rw [HM.out]; exact HOK.out.slot
    have csy := say_any HLW.out hfit hslot hmg (by omega)
    have v1 := V1.out
    have HWq := Lib.hid hW
    clear cend hd6 hB6 hL6 k6 kW oW hLW hcut hL5 hW hfit hslot hbase
    go_upto_region 5 with fail
    rw [show _ = W from HWq.out]
    clear v1
    go_wp2_with fail
    refine csy.mono ?_
    rintro e w7 ⟨rfl, hp⟩
    have H := Lib.hid (FIN.out _ _ _ HC.out HO5.out hp)
    clear hp FIN csy HLW
    go_wp2
    go_end0
    exact ⟨rfl, H.out⟩
end Go.Proofs.YtkganajbilnanaaGreat
