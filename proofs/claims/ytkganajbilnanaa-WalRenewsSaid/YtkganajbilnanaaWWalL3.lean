/- WalRenews: the law's walk. Conditions: the calls, the fates lie there. -/
import Derived.Test.YtkganajbilnanaaWWalEn
import Derived.Test.YtkganajbilnanaaWWalArgs
namespace Go.Proofs.Ytkganajbilnanaa
open Go.ChangeShapes Go.WideShapes Go.ChangeAt Go.RowKit
open NumMath
set_option linter.unusedVariables false
set_option linter.unusedSimpArgs false
set_option maxRecDepth 20000

theorem WOpsAt.moreMR {w : World} {B B' : Nat} {A : Option Addr} {l : List WOp} (h : WOpsAt w B A l) (hB : B ≤ B') : WOpsAt w B' A l := fun j hj => by
  obtain ⟨b, o, m, Af, cf, e, h0, hc, hv⟩ := h j hj
  exact ⟨b, o, m, Af, cf, e, by omega, hc, ⟨hv.rc.more hB, ⟨hv.fa.1.more hB, hv.fa.2⟩, hv.kind, hv.spare, hv.at_⟩⟩
theorem heavy8_noMR {size : Int} {l : List WOp} (h : heavy8 size l = false) : size ≤ 120 ∧ l.length ≤ 40 := by
  unfold heavy8 at h
  simp only [Bool.or_eq_false_iff, decide_eq_false_iff_not] at h
  omega
theorem max8MR (size : Int) (h : size ≤ 120) : ∃ a : Nat, (if size < 18 then 18 else size) = (a : Int) ∧ 18 ≤ a ∧ a ≤ 120 := by
  split
  · exact ⟨18, rfl, by omega, by omega⟩
  · exact ⟨size.toNat, by omega, by omega, by omega⟩
theorem atP_zeroMR {L : LogP} (h : 0 < L.h.base) : atP L 0 = (0, false) := by
  unfold atP
  rw [if_pos h]
theorem stepP_stripsR (L : LogP) (D : DevP) (rs : List RecP) (x : WOp) : (stepP L D rs x).1.strips = L.strips := by
  unfold stepP
  split
  · exact flushL_strips _ _
  · split
    · exact flushL_strips _ _
    · split
      · rfl
      · split
        · show (appP L x.r (x.spare % 100)).2.strips = _
          unfold appP
          split
          · rfl
          · split <;> rfl
        · rfl
theorem playP_stripsR (l : List WOp) : ∀ s, (playP s l).1.strips = s.1.strips := by
  induction l with
  | nil => exact fun s => rfl
  | cons x l ih => exact fun s => (ih _).trans (stepP_stripsR _ _ _ _)
theorem start8_stripsR {a : Nat} : (start8 a).1.strips = (a - 2) / 2 := by
  show ((DevP.new a 0).size 0 - 2) / 2 = _
  have : (DevP.new a 0).size 0 = a := by
    show (if 0 < 2 then (List.replicate _ _).length else 0) = a
    rw [if_pos (by omega), List.length_replicate]
    rfl
  rw [this]
/-- a device behind a crash, and what Open makes of it, where all lasts -/
theorem ok8_openR {L : LogP} {D : DevP} {rs : List RecP} {i : Nat} (h : Ok8 L D rs i) (hl : L.lasts = L.stream.length) (hs : L.strips ≤ 600) (fs : List FateP) :
    (D.crash fs).size 0 ≤ 1400 ∧ opens (D.crash fs) = true ∧ (openL (D.crash fs)).h = L.h ∧ (openL (D.crash fs)).strips = L.strips ∧ (openL (D.crash fs)).stream = L.stream ∧ (openL (D.crash fs)).fit rs ∧ 0 < L.h.base := by
  obtain ⟨C, q⟩ := h.inv
  have q2 := q.crash fs
  obtain ⟨h1, h2, h3⟩ := q2.openedAll hl
  have hf := q.fit
  have hz : (D.crash fs).size 0 = C.length := by
    show (if 0 < 2 then ((D.crash fs).f 0).length else 0) = C.length
    rw [if_pos (by omega)]
    exact q2.q.length
  have h4 := q.strips
  have h5 := q.may.lo
  refine ⟨by rw [hz]; omega, h1, by rw [h3], by rw [h3], by rw [h3], ?_, by omega⟩
  rw [h3]
  exact ⟨hf.strips, hf.fits, hf.area, hf.slot, hf.len, Nat.le_refl _, hf.base, ⟨hf.recs.stream, hf.recs.starts, hf.recs.good⟩⟩
theorem renewL_all (L : LogP) : (renewL L).lasts = (renewL L).stream.length ∧ (renewL L).stream = [] ∧ (renewL L).h.check = 0 ∧ (renewL L).h.base = L.h.base + L.stream.length ∧ (renewL L).strips = L.strips := ⟨rfl, rfl, rfl, rfl, rfl⟩
set_option maxHeartbeats 16000000 in
theorem walRenews_walk (v0 v1 v2 : Value) (w : World) (w0 : IsInt .i64 w v0) (w1 : IsOps8 w v1) (w3 : IsFates w v2) :
    Calls Try.prog 6 #[v0, v1, v2] w fun e w' => e = .returned (.bool true) ∧ Below w.heap.size w w' := by
  obtain ⟨sz, rfl, -⟩ := w0
  obtain ⟨A, c, l, rfl, hl⟩ := w1
  obtain ⟨Af, cf, fs, rfl, hfs⟩ := w3
  have ch := heavy8_any sz A c l w.heap.size w hl (Nat.le_refl _)
  obtain ⟨n, hn⟩ : ∃ n, l.length = n := ⟨_, rfl⟩
  rw [hn] at ch
  rw [hn]
  obtain ⟨nf, hnf⟩ : ∃ n, fs.length = n := ⟨_, rfl⟩
  rw [hnf]
  obtain ⟨hv, hhv⟩ : ∃ q, heavy8 sz l = q := ⟨_, rfl⟩
  rw [hhv] at ch
  have HL := Lib.hid hl
  have HFS := Lib.hid hfs
  have HN := Lib.hid hn
  have HNF := Lib.hid hnf
  have HHV := Lib.hid hhv
  clear hn hhv hl hfs hnf
  go_enter Try.func6, Try.ntmps6
  cases hv with
  | true =>
    go_wp2_with fail
    refine ch.mono ?_
    rintro e w2 ⟨rfl, hb2⟩
    go_wp2_with fail
    refine (kn_any w2).mono ?_
    rintro e w3 ⟨rfl, hb3⟩
    go_wp2
    go_ret
    exact ⟨rfl, hb2.trans (hb3.mono hb2.size)⟩
  | false =>
    go_wp2_with fail
    refine ch.mono ?_
    rintro e w4 ⟨rfl, hb4⟩
    clear ch
    by_cases hf60 : 60 < nf
    · have t1 : decide ((60 : Int) < (nf : Int)) = true := by rw [decide_eq_true_iff]; omega
      go_wp2_with fail
      refine (kn_any w4).mono ?_
      rintro e w3 ⟨rfl, hb3⟩
      go_wp2
      go_ret
      exact ⟨rfl, hb4.trans (hb3.mono hb4.size)⟩
    have t1 : decide ((60 : Int) < (nf : Int)) = false := by rw [decide_eq_false_iff_not]; omega
    go_wp2_with fail
    refine (kn_any w4).mono ?_
    rintro e w5 ⟨rfl, hb5⟩
    have hb5 := hb4.trans (hb5.mono hb4.size)
    have HB5 := Lib.hid hb5
    clear hb4 hb5 t1
    obtain ⟨hs120, hl40⟩ := heavy8_noMR HHV.out
    obtain ⟨a, hmax, ha1, ha2⟩ := max8MR sz hs120
    have crun := run8_any sz a hmax ha1 (by omega) A c l w5 ((HL.out.below HB5.out).moreMR HB5.out.size) hl40
    rw [HN.out] at crun
    have hok := ok8_play ha1 (show a ≤ 1400 by omega) HL.out.good l.length (Nat.le_refl _) (by omega)
    rw [List.take_of_length_le (Nat.le_refl _)] at hok
    have HSTR : Hid ((playP (start8 a) l).1.strips ≤ 600) := Lib.hid (by rw [playP_stripsR, start8_stripsR]; omega)
    have HOK := Lib.hid (hok.mono hl40)
    clear hok hs120 hl40 hmax ha1 ha2 HHV HL
    go_wp2_with fail
    refine crun.mono ?_
    rintro e w6 ⟨gpl, gl, pd, rfl, hb6, hpl⟩
    clear crun
    obtain ⟨S, hS⟩ : ∃ s, playP (start8 a) l = s := ⟨_, rfl⟩
    rw [hS] at hpl HOK HSTR
    obtain ⟨L, D, rs⟩ := S
    obtain ⟨H, wb, wl, wes, wv, iv, hp⟩ := hpl
    have HOK : Hid (Ok8 L D rs 40) := Lib.hid HOK.out
    have HSTR : Hid (L.strips ≤ 600) := Lib.hid HSTR.out
    dsimp only at hp
    have HB6 := Lib.hid (HB5.out.trans (hb6.mono HB5.out.size))
    obtain ⟨F, G, gl', sv, st, hpe, hLg, hH⟩ := hp.log
    injection hpe with hpe
    injection hpe with hpe
    injection hpe with hpe
    subst hpe
    have HP := Lib.hid hp
    have HH := Lib.hid hH
    have c1 : w6.cell? ⟨gpl, 1, none⟩ = some (.pointer (some ⟨gl, 0, none⟩)) := hp.blk.cell 1
    obtain ⟨gp, s0, lv0, X0, rfl, -⟩ := id hLg.dev
    obtain ⟨A7, c7, rfl, -, -⟩ := hLg.log.bytes
    have hfit := HOK.out.fit
    have hlen := hfit.len
    have hbase := hfit.base
    have hstr := HSTR.out
    obtain ⟨n0, hn0⟩ : ∃ q, L.stream.length = q := ⟨_, rfl⟩
    obtain ⟨bs, hbs⟩ : ∃ q, L.h.base = q := ⟨_, rfl⟩
    obtain ⟨st0, hst0⟩ : ∃ q, L.strips * 127 = q := ⟨_, rfl⟩
    obtain ⟨rm, hrm⟩ : ∃ q, st0 - n0 = q := ⟨_, rfl⟩
    obtain ⟨en, hen⟩ : ∃ q, bs + n0 = q := ⟨_, rfl⟩
    have RMS : Hid (∀ W, Below w6.heap.size w6 W →
        Calls Try.prog 11 #[.pointer (some ⟨gl, 0, none⟩)] W (fun e w' => e = .returned (.int .u64 (rm : Nat)) ∧ Drew W w') ∧
        Calls Try.prog 12 #[.pointer (some ⟨gl, 0, none⟩)] W (fun e w' => e = .returned (.int .u64 (en : Nat)) ∧ Drew W w') ∧
        Calls Try.prog 21 #[.pointer (some ⟨gl, 0, none⟩)] W (fun e w' => e = .returned (.int .u64 (bs : Nat)) ∧ W = w') ∧ W.cell? ⟨gpl, 1, none⟩ = some (.pointer (some ⟨gl, 0, none⟩))) := Lib.hid fun W hW => by
      have hl := hLg.below hW
      have x1 := Room_any hl.log.blk (by show L.strips ≤ _; omega) hlen
      have x2 := end_any hl.log.blk hbase
      have x3 := base_any hl.log.blk
      rw [hst0, hn0, hrm] at x1
      rw [hn0, hbs, hen] at x2
      rw [hbs] at x3
      exact ⟨x1, x2, x3, (hp.blk.below hW hp.blk.lt).cell 1⟩
    have HN0 := Lib.hid hn0
    have HBS := Lib.hid hbs
    have HST0 := Lib.hid hst0
    have HRM := Lib.hid hrm
    have HEN := Lib.hid hen
    have HLE : Hid (n0 ≤ st0 ∧ st0 ≤ 100000 ∧ bs + n0 < 18446744073709551616) := Lib.hid (by omega)
    have HLG := Lib.hid hLg
    have cen := (RMS.out w6 (Below.refl _ _)).2.1
    clear hp hH hLg hS hb6 hfit hlen hbase hstr hn0 hbs hst0 hrm hen
    go_wp2_with fail
    refine cen.mono ?_
    rintro e w61 ⟨rfl, hd61⟩
    have hb61 := hd61.below w6.heap.size
    have HB61 := Lib.hid hb61
    have v1 : IntKind.u64.wrap ((en : Int) - (bs : Int)) = (n0 : Int) := by have := HLE.out; have := HEN.out; rw [IntKind.wrap_u64]; omega
    have v2 : IntKind.u64.wrap ((rm : Int) + (n0 : Int)) = (st0 : Int) := by have := HLE.out; have := HRM.out; rw [IntKind.wrap_u64]; omega
    have crm := fun W (h : Below w6.heap.size w6 W) => (RMS.out W h).1
    have cba := fun W (h : Below w6.heap.size w6 W) => (RMS.out W h).2.2.1
    clear cen c1 hd61 hb61
    go_upto_region 7 with fail
    go_cut [9] (fun v9 wx => v9 = .int .u64 (st0 : Nat) ∧ Below w6.heap.size w6 wx)
    case first =>
      have x0 := (RMS.out w61.drew (HB61.out.trans (below_drew8 _ _))).2.2.2
      go_wp2_with fail
      go_region_held3 (fun W => W.cell? ⟨gpl, 1, none⟩ = some (.pointer (some ⟨gl, 0, none⟩)))
        (first | with_reducible (exact x0) | with_reducible (exact x2) | fail)
        (first
          | ((with_reducible refine (crm _ (HB61.out.trans (below_drew8 _ _))).mono ?_); rintro e w62 ⟨rfl, hd62⟩; have h62 := (HB61.out.trans (below_drew8 _ _)).trans (hd62.below w6.heap.size); have x2 := (RMS.out w62 h62).2.2.2; have H62 := Lib.hid h62)
          | ((with_reducible refine (cba _ H62.out).mono ?_); rintro e wz ⟨rfl, rfl⟩)
          | ((with_reducible refine (cba _ (HB61.out.trans (below_drew8 _ _))).mono ?_); rintro e wz ⟨rfl, rfl⟩)
          | fail)
      all_goals
        go_wp2
        go_meet
        case rel => exact ⟨rfl, H62.out⟩
    rename World => wx
    obtain ⟨rfl, hbx⟩ := hcut
    have c1 := (RMS.out wx hbx).2.2.2
    have HPX := Lib.hid (HP.out.below hbx)
    have HBX := Lib.hid (HB6.out.trans (hbx.mono HB6.out.size))
    have cre := renew_any (HLG.out.below hbx) HOK.out.fit.ok HOK.out.good (by omega)
    clear crm cba v1 v2 RMS HB61 hbx HP HB6 HLG
    go_wp2_with fail
    refine cre.mono ?_
    rintro e w7 ⟨rfl, F7, G7, sv7, st7, hL7, hF7, hG7, hO7⟩
    clear cre c1
    have hok7 := HOK.out.renew (by omega)
    obtain ⟨ha1, ha2, ha3, ha4, ha5⟩ := renewL_all L
    have HO7 := Lib.hid (hO7.mono (S' := H) (fun b q => .inl (HH.out b q)))
    have hlo : ∀ b, H b → w.heap.size ≤ b := fun b q => Nat.le_trans HB5.out.size (HPX.out.lo b q)
    have hb7 := HBX.out.trans (HO7.out.below HBX.out.size hlo)
    have hF7H : ∀ b, F7 b → H b ∨ wx.heap.size ≤ b := fun b q => (hF7 b q).imp (fun z => HH.out b (.inl z)) (fun z => z.1)
    have hfa7 : FatesAt w7 w7.heap.size Af fs := ⟨(HFS.out.1.below hb7).more hb7.size, HFS.out.2⟩
    have ccr := crash_any hL7.dev hL7.hiF hok7.good (by omega) Af cf fs hfa7 (fun b o e hlt q => by
      obtain ⟨b', o', e', h1, -⟩ := HFS.out.1 0 (by rw [flat_length]; omega)
      rw [e] at e'
      injection e' with e'
      injection e' with e1 e2
      have := HBX.out.size
      rcases hF7H b q with z | z
      · have := hlo b z; omega
      · omega) (by rw [HNF.out]; omega)
    rw [HNF.out] at ccr
    have c0 : w7.cell? ⟨gpl, 0, none⟩ = some (.pointer (some ⟨gp, 0, none⟩)) := (HPX.out.blk.only HO7.out HPX.out.nH).cell 0
    have HF7 := Lib.hid hF7H
    have HL7 := Lib.hid hL7
    have HOK7 := Lib.hid hok7
    clear hF7 hG7 hO7 hL7 hok7 hfa7 hF7H hb7
    go_wp2_with fail
    refine ccr.mono ?_
    rintro e w8 ⟨rfl, hd8, hO8⟩
    clear ccr c0
    obtain ⟨hz, hop, e1, e4, e3, hfit9, hpos⟩ := ok8_openR HOK7.out ha1 (by rw [ha5]; exact HSTR.out) fs
    have HO8 := Lib.hid (HO7.out.trans hO8 HF7.out)
    have LG8 := Lib.hid (HL7.out.log.only hO8 fun b q z => HL7.out.dis b z q)
    have c0 : w8.cell? ⟨gpl, 0, none⟩ = some (.pointer (some ⟨gp, 0, none⟩)) := (HPX.out.blk.only HO8.out HPX.out.nH).cell 0
    have hs7 := HO7.out.size
    have hF8 : ∀ b, grow F7 w7 w8 b → H b ∨ wx.heap.size ≤ b := fun b q => q.elim (HF7.out b) (fun z => .inr (by omega))
    have cop := open_any hd8 (fun b q => q.elim (fun z => Nat.lt_of_lt_of_le (HL7.out.hiF b z) hO8.size) (fun z => z.2)) (HOK7.out.good.crash fs) (by omega) hz
    have HF8 := Lib.hid hF8
    clear hd8 hO8 hF8 hs7 hz
    go_wp2_with fail
    refine cop.mono ?_
    rintro e w9 (⟨hno, -⟩ | ⟨-, -, gl9, rfl, F9, G9, sv9, st9, hL9, hF9, hG9, hO9⟩)
    · rw [hop] at hno; cases hno
    have HO9 := Lib.hid (HO8.out.trans hO9 fun b q => q.elim (HF8.out b) (fun z => z.elim))
    have hlg9 : LogAt (renewL L) w9 G7 gl (.pointer (some ⟨gp, 0, none⟩)) sv7 st7 := LG8.out.only hO9 fun b q z => z.elim (fun z => z.elim (fun y => HL7.out.dis b y q) (fun y => by have := HL7.out.hiG b q; omega)) (fun z => z.elim)
    have HFIN : Hid (∀ W, Below w9.heap.size w9 W → Below w.heap.size w W) := Lib.hid fun W hW => by
      have x9 := HBX.out.trans (HO9.out.below HBX.out.size hlo)
      exact x9.trans (hW.mono x9.size)
    have hren : (renewL L).h.base + (renewL L).stream.length = en := by rw [ha4, ha2, HBS.out, HN0.out, HEN.out]; rfl
    have hren2 : (renewL L).h.base = en := by rw [ha4, HBS.out, HN0.out, HEN.out]
    have h64 : en < 18446744073709551616 := by have := HLE.out; have := HEN.out; omega
    obtain ⟨A9, c9, rfl, -, -⟩ := hL9.log.bytes
    obtain ⟨A8, c8, rfl, -, -⟩ := hlg9.bytes
    have ALL : Hid (∀ W, Below w9.heap.size w9 W →
        Calls Try.prog 21 #[.pointer (some ⟨gl9, 0, none⟩)] W (fun e w' => e = .returned (.int .u64 (en : Nat)) ∧ W = w') ∧
        Calls Try.prog 12 #[.pointer (some ⟨gl9, 0, none⟩)] W (fun e w' => e = .returned (.int .u64 (en : Nat)) ∧ Drew W w') ∧
        Calls Try.prog 12 #[.pointer (some ⟨gl, 0, none⟩)] W (fun e w' => e = .returned (.int .u64 (en : Nat)) ∧ Drew W w') ∧
        Calls Try.prog 18 #[.pointer (some ⟨gl9, 0, none⟩), .int .u64 0] W (fun e w' => Below W.heap.size W w' ∧ ∃ A c, e = .returned (.slice A 0 c)) ∧
        Calls Try.prog 25 #[.pointer (some ⟨gl9, 0, none⟩)] W (fun e w' => e = .returned (.int .u64 0) ∧ W = w') ∧
        Calls Try.prog 11 #[.pointer (some ⟨gl9, 0, none⟩)] W (fun e w' => e = .returned (.int .u64 (st0 : Nat)) ∧ Drew W w') ∧
        W.cell? ⟨gpl, 1, none⟩ = some (.pointer (some ⟨gl, 0, none⟩))) := Lib.hid fun W hW => by
      have hl := hL9.below hW
      have hl7 := hlg9.below hW
      have x1 := base_any hl.log.blk
      have x2 := end_any hl.log.blk (by rw [e1, e3, hren]; exact h64)
      have x3 := end_any hl7.blk (by rw [hren]; exact h64)
      have x4 := ents_any hl hfit9 0 (by decide)
      have x5 := check_any hl.log.blk
      have x6 := Room_any hl.log.blk (by rw [e4, ha5]; have := HSTR.out; omega) (by rw [e3, ha2]; exact Nat.zero_le _)
      rw [e1, hren2] at x1
      rw [e1, e3, hren] at x2
      rw [hren] at x3
      rw [e1, ha3] at x5
      rw [e4, e3, ha5, ha2, HST0.out] at x6
      refine ⟨x1, x2, x3, x4.mono ?_, x5, x6, ?_⟩
      · rintro e w' ⟨q1, A, c, q2, -⟩
        refine ⟨q1, A, c, ?_⟩
        rw [q2]
        have : ((entsP (openL ((renewD L D).crash fs)).h.base []).drop (atP (openL ((renewD L D).crash fs)) 0).1).length = 0 := by
          show (List.drop _ []).length = 0
          rw [List.drop_nil]
          rfl
        rw [this]
      · have k9 := HPX.out.blk.only HO9.out HPX.out.nH
        exact (k9.below hW k9.lt).cell 1
    clear cop hop e1 e3 e4 hfit9 hpos hL9 hF9 hG9 hO9 hlo ha1 ha2 ha3 ha4 ha5 c0 hlg9 hren hren2 h64 HL7 LG8 HF8 HO8 HO7 HF7 HOK7 HO9
    have cb := (ALL.out w9 (Below.refl _ _)).1
    have ce := (ALL.out w9 (Below.refl _ _)).2.1
    go_wp2_with fail
    refine cb.mono ?_
    rintro e wz ⟨rfl, rfl⟩
    clear cb
    go_wp2_with fail
    refine ce.mono ?_
    rintro e w10 ⟨rfl, hd10⟩
    have hb10 := hd10.below w9.heap.size
    have c1 := (ALL.out w10 hb10).2.2.2.2.2.2
    have ce := (ALL.out w10 hb10).2.2.1
    clear hd10
    go_wp2_with fail
    refine ce.mono ?_
    rintro e w11 ⟨rfl, hd11⟩
    have hb11 := hb10.trans (hd11.below w9.heap.size)
    have cn := (ALL.out w11 hb11).2.2.2.1
    clear ce hd11 hb10 c1
    go_wp2_with fail
    refine cn.mono ?_
    rintro e w12 ⟨hb12, A12, c12, rfl⟩
    have hb12 := hb11.trans (hb12.mono hb11.size)
    have ck := (ALL.out w12 hb12).2.2.2.2.1
    clear cn hb11
    go_wp2_with fail
    refine ck.mono ?_
    rintro e wz ⟨rfl, rfl⟩
    have cr := (ALL.out w12 hb12).2.2.2.2.2.1
    clear ck
    go_wp2_with fail
    refine cr.mono ?_
    rintro e w13 ⟨rfl, hd13⟩
    have HZ := Lib.hid (HFIN.out w13 (hb12.trans (hd13.below w9.heap.size)))
    clear cr hd13 hb12 ALL
    go_wp2
    go_ret
    exact ⟨rfl, HZ.out⟩
end Go.Proofs.Ytkganajbilnanaa
