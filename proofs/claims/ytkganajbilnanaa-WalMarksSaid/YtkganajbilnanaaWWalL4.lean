/- WalMarks: the law's walk. Conditions: the calls, the fates lie there. -/
import Derived.Test.YtkganajbilnanaaWWalEn
import Derived.Test.YtkganajbilnanaaWWalArgs
namespace Go.Proofs.Ytkganajbilnanaa
open Go.ChangeShapes Go.WideShapes Go.ChangeAt Go.RowKit
open NumMath
set_option linter.unusedVariables false
set_option linter.unusedSimpArgs false
set_option maxRecDepth 20000

theorem WOpsAt.moreM {w : World} {B B' : Nat} {A : Option Addr} {l : List WOp} (h : WOpsAt w B A l) (hB : B ≤ B') : WOpsAt w B' A l := fun j hj => by
  obtain ⟨b, o, m, Af, cf, e, h0, hc, hv⟩ := h j hj
  exact ⟨b, o, m, Af, cf, e, by omega, hc, ⟨hv.rc.more hB, ⟨hv.fa.1.more hB, hv.fa.2⟩, hv.kind, hv.spare, hv.at_⟩⟩
theorem heavy8_noM {size : Int} {l : List WOp} (h : heavy8 size l = false) : size ≤ 120 ∧ l.length ≤ 40 := by
  unfold heavy8 at h
  simp only [Bool.or_eq_false_iff, decide_eq_false_iff_not] at h
  omega
theorem max8M (size : Int) (h : size ≤ 120) : ∃ a : Nat, (if size < 18 then 18 else size) = (a : Int) ∧ 18 ≤ a ∧ a ≤ 120 := by
  split
  · exact ⟨18, rfl, by omega, by omega⟩
  · exact ⟨size.toNat, by omega, by omega, by omega⟩
theorem ents_shortM {L : LogP} {rs : List RecP} (h : L.fit rs) (p : Nat) : ∀ e ∈ entsP p rs, e.2.txns.length ≤ 100000 ∧ e.2.pages.length ≤ 100000 := fun e he => by
  obtain ⟨j, hj, rfl⟩ := List.mem_iff_getElem.1 he
  rw [entsP_length] at hj
  have h1 := entsP_at rs p j hj
  rw [List.getElem?_eq_getElem (by rw [entsP_length]; exact hj)] at h1
  rw [Option.some.inj h1]
  obtain ⟨hok, -⟩ := h.recs.good _ (List.getElem_mem hj)
  unfold okR at hok
  simp only [Bool.and_eq_true, decide_eq_true_eq] at hok
  exact ⟨by show rs[j].txns.length ≤ _; omega, by show rs[j].pages.length ≤ _; omega⟩
theorem atP_zeroM {L : LogP} (h : 0 < L.h.base) : atP L 0 = (0, false) := by
  unfold atP
  rw [if_pos h]
theorem stepP_strips (L : LogP) (D : DevP) (rs : List RecP) (x : WOp) : (stepP L D rs x).1.strips = L.strips := by
  unfold stepP
  split
  · exact flushL_strips _ _
  · split
    · exact flushL_strips _ _
    · split
      · rfl
      · split
        · show (appP L x.r (x.spare % 100)).2.strips = _
          unfold appP
          split
          · rfl
          · split <;> rfl
        · rfl
theorem playP_strips (l : List WOp) : ∀ s, (playP s l).1.strips = s.1.strips := by
  induction l with
  | nil => exact fun s => rfl
  | cons x l ih => exact fun s => (ih _).trans (stepP_strips _ _ _ _)
theorem start8_strips {a : Nat} : (start8 a).1.strips = (a - 2) / 2 := by
  show ((DevP.new a 0).size 0 - 2) / 2 = _
  have : (DevP.new a 0).size 0 = a := by
    show (if 0 < 2 then (List.replicate _ _).length else 0) = a
    rw [if_pos (by omega), List.length_replicate]
    rfl
  rw [this]
/-- a device behind a crash, and what Open makes of it, where all lasts -/
theorem ok8_open {L : LogP} {D : DevP} {rs : List RecP} {i : Nat} (h : Ok8 L D rs i) (hl : L.lasts = L.stream.length) (hs : L.strips ≤ 600) (fs : List FateP) :
    (D.crash fs).size 0 ≤ 1400 ∧ opens (D.crash fs) = true ∧ (openL (D.crash fs)).h = L.h ∧ (openL (D.crash fs)).strips = L.strips ∧ (openL (D.crash fs)).stream = L.stream ∧ (openL (D.crash fs)).fit rs ∧ 0 < L.h.base := by
  obtain ⟨C, q⟩ := h.inv
  have q2 := q.crash fs
  obtain ⟨h1, h2, h3⟩ := q2.openedAll hl
  have hf := q.fit
  have hz : (D.crash fs).size 0 = C.length := by
    show (if 0 < 2 then ((D.crash fs).f 0).length else 0) = C.length
    rw [if_pos (by omega)]
    exact q2.q.length
  have h4 := q.strips
  have h5 := q.may.lo
  refine ⟨by rw [hz]; omega, h1, by rw [h3], by rw [h3], by rw [h3], ?_, by omega⟩
  rw [h3]
  exact ⟨hf.strips, hf.fits, hf.area, hf.slot, hf.len, Nat.le_refl _, hf.base, ⟨hf.recs.stream, hf.recs.starts, hf.recs.good⟩⟩
theorem markL_all {L : LogP} {rs : List RecP} (h : L.fit rs) (lsn : Nat) : (markL L lsn).lasts = (markL L lsn).stream.length ∧ (markL L lsn).stream = L.stream ∧ (markL L lsn).h.check = lsn ∧ (markL L lsn).h.base = L.h.base ∧ (markL L lsn).strips = L.strips := by
  have h1 : (markL L lsn).lasts = (flushL L topN).lasts := rfl
  have h2 : (markL L lsn).stream = (flushL L topN).stream := rfl
  have h3 := flushL_lasts L topN
  have h4 := toP_top h
  have h5 := h.lasts
  have h6 := flushL_stream L topN
  refine ⟨?_, by rw [h2, h6], rfl, ?_, flushL_strips L topN⟩
  · rw [h1, h2, h3, h4, h6]; omega
  · show (flushL L topN).h.base = _
    rw [flushL_h]
set_option maxHeartbeats 16000000 in
theorem walMarks_walk (v0 v1 v2 v3 : Value) (w : World) (w0 : IsInt .i64 w v0) (w1 : IsOps8 w v1) (w2 : IsInt .u64 w v2) (w3 : IsFates w v3) :
    Calls Try.prog 7 #[v0, v1, v2, v3] w fun e w' => e = .returned (.bool true) ∧ Below w.heap.size w w' := by
  obtain ⟨sz, rfl, -⟩ := w0
  obtain ⟨A, c, l, rfl, hl⟩ := w1
  obtain ⟨at', rfl, hat'⟩ := w2
  obtain ⟨at', rfl, hatn⟩ := nat_u64 hat'
  obtain ⟨Af, cf, fs, rfl, hfs⟩ := w3
  clear hat'
  have ch := heavy8_any sz A c l w.heap.size w hl (Nat.le_refl _)
  obtain ⟨n, hn⟩ : ∃ n, l.length = n := ⟨_, rfl⟩
  rw [hn] at ch
  rw [hn]
  obtain ⟨nf, hnf⟩ : ∃ n, fs.length = n := ⟨_, rfl⟩
  rw [hnf]
  obtain ⟨hv, hhv⟩ : ∃ q, heavy8 sz l = q := ⟨_, rfl⟩
  rw [hhv] at ch
  have HL := Lib.hid hl
  have HFS := Lib.hid hfs
  have HN := Lib.hid hn
  have HNF := Lib.hid hnf
  have HHV := Lib.hid hhv
  clear hn hhv hl hfs hnf
  go_enter Try.func7, Try.ntmps7
  cases hv with
  | true =>
    go_wp2_with fail
    refine ch.mono ?_
    rintro e w2 ⟨rfl, hb2⟩
    go_wp2_with fail
    refine (kn_any w2).mono ?_
    rintro e w3 ⟨rfl, hb3⟩
    go_wp2
    go_ret
    exact ⟨rfl, hb2.trans (hb3.mono hb2.size)⟩
  | false =>
    go_wp2_with fail
    refine ch.mono ?_
    rintro e w4 ⟨rfl, hb4⟩
    clear ch
    by_cases hf60 : 60 < nf
    · have t1 : decide ((60 : Int) < (nf : Int)) = true := by rw [decide_eq_true_iff]; omega
      go_wp2_with fail
      refine (kn_any w4).mono ?_
      rintro e w3 ⟨rfl, hb3⟩
      go_wp2
      go_ret
      exact ⟨rfl, hb4.trans (hb3.mono hb4.size)⟩
    have t1 : decide ((60 : Int) < (nf : Int)) = false := by rw [decide_eq_false_iff_not]; omega
    go_wp2_with fail
    refine (kn_any w4).mono ?_
    rintro e w5 ⟨rfl, hb5⟩
    have hb5 := hb4.trans (hb5.mono hb4.size)
    have HB5 := Lib.hid hb5
    clear hb4 hb5 t1
    obtain ⟨hs120, hl40⟩ := heavy8_noM HHV.out
    obtain ⟨a, hmax, ha1, ha2⟩ := max8M sz hs120
    have crun := run8_any sz a hmax ha1 (by omega) A c l w5 ((HL.out.below HB5.out).moreM HB5.out.size) hl40
    rw [HN.out] at crun
    have hok := ok8_play ha1 (show a ≤ 1400 by omega) HL.out.good l.length (Nat.le_refl _) (by omega)
    rw [List.take_of_length_le (Nat.le_refl _)] at hok
    have HSTR : Hid ((playP (start8 a) l).1.strips ≤ 600) := Lib.hid (by rw [playP_strips, start8_strips]; omega)
    have HOK := Lib.hid (hok.mono hl40)
    clear hok hs120 hl40 hmax ha1 ha2 HHV HL
    go_wp2_with fail
    refine crun.mono ?_
    rintro e w6 ⟨gpl, gl, pd, rfl, hb6, hpl⟩
    clear crun
    obtain ⟨S, hS⟩ : ∃ s, playP (start8 a) l = s := ⟨_, rfl⟩
    rw [hS] at hpl HOK HSTR
    obtain ⟨L, D, rs⟩ := S
    obtain ⟨H, wb, wl, wes, wv, iv, hp⟩ := hpl
    have HOK : Hid (Ok8 L D rs 40) := Lib.hid HOK.out
    have HSTR : Hid (L.strips ≤ 600) := Lib.hid HSTR.out
    dsimp only at hp
    have HB6 := Lib.hid (HB5.out.trans (hb6.mono HB5.out.size))
    obtain ⟨F, G, gl', sv, st, hpe, hLg, hH⟩ := hp.log
    injection hpe with hpe
    injection hpe with hpe
    injection hpe with hpe
    subst hpe
    have HP := Lib.hid hp
    have HH := Lib.hid hH
    have c1 : w6.cell? ⟨gpl, 1, none⟩ = some (.pointer (some ⟨gl, 0, none⟩)) := hp.blk.cell 1
    have cmk := mark_any hLg HOK.out.fit.ok HOK.out.good (by omega) at' hatn
    obtain ⟨gp, s0, lv0, X0, rfl, -⟩ := id hLg.dev
    clear hp hH hLg hS hb6
    go_wp2_with fail
    refine cmk.mono ?_
    rintro e w7 ⟨rfl, F7, G7, sv7, st7, hL7, hF7, hG7, hO7⟩
    clear cmk c1
    have hok7 := HOK.out.markk (by omega) hatn
    obtain ⟨ha1, ha2, ha3, ha4, ha5⟩ := markL_all HOK.out.fit at'
    have HO7 := Lib.hid (hO7.mono (S' := H) (fun b q => .inl (HH.out b q)))
    have hlo : ∀ b, H b → w.heap.size ≤ b := fun b q => Nat.le_trans HB5.out.size (HP.out.lo b q)
    have hb7 := HB6.out.trans (HO7.out.below HB6.out.size hlo)
    have hF7H : ∀ b, F7 b → H b ∨ w6.heap.size ≤ b := fun b q => (hF7 b q).imp (fun z => HH.out b (.inl z)) (fun z => z.1)
    have hfa7 : FatesAt w7 w7.heap.size Af fs := ⟨(HFS.out.1.below hb7).more hb7.size, HFS.out.2⟩
    have ccr := crash_any hL7.dev hL7.hiF hok7.good (by omega) Af cf fs hfa7 (fun b o e hlt q => by
      obtain ⟨b', o', e', h1, -⟩ := HFS.out.1 0 (by rw [flat_length]; omega)
      rw [e] at e'
      injection e' with e'
      injection e' with e1 e2
      have := HB6.out.size
      rcases hF7H b q with z | z
      · have := hlo b z; omega
      · omega) (by rw [HNF.out]; omega)
    rw [HNF.out] at ccr
    have c0 : w7.cell? ⟨gpl, 0, none⟩ = some (.pointer (some ⟨gp, 0, none⟩)) := (HP.out.blk.only HO7.out HP.out.nH).cell 0
    have HF7 := Lib.hid hF7H
    have HL7 := Lib.hid hL7
    have HOK7 := Lib.hid hok7
    clear hF7 hG7 hO7 hL7 hok7 hfa7 hF7H hb7
    go_wp2_with fail
    refine ccr.mono ?_
    rintro e w8 ⟨rfl, hd8, hO8⟩
    clear ccr c0
    obtain ⟨hz, hop, e1, e2, e3, hfit9, hpos⟩ := ok8_open HOK7.out ha1 (by rw [ha5]; exact HSTR.out) fs
    have HO8 := Lib.hid (HO7.out.trans hO8 HF7.out)
    have c0 : w8.cell? ⟨gpl, 0, none⟩ = some (.pointer (some ⟨gp, 0, none⟩)) := (HP.out.blk.only HO8.out HP.out.nH).cell 0
    have hs7 := HO7.out.size
    have hF8 : ∀ b, grow F7 w7 w8 b → H b ∨ w6.heap.size ≤ b := fun b q => q.elim (HF7.out b) (fun z => .inr (by omega))
    have cop := open_any hd8 (fun b q => q.elim (fun z => Nat.lt_of_lt_of_le (HL7.out.hiF b z) hO8.size) (fun z => z.2)) (HOK7.out.good.crash fs) (by omega) hz
    have HF8 := Lib.hid hF8
    clear hd8 hO8 hF8 hs7 hz
    go_wp2_with fail
    refine cop.mono ?_
    rintro e w9 (⟨hno, -⟩ | ⟨-, -, gl9, rfl, F9, G9, sv9, st9, hL9, hF9, hG9, hO9⟩)
    · rw [hop] at hno; cases hno
    have HO9 := Lib.hid (HO8.out.trans hO9 fun b q => q.elim (HF8.out b) (fun z => z.elim))
    have hE9 := HP.out.is.only HO9.out HP.out.size HP.out.lo HP.out.nI
    obtain ⟨AE, cE, rfl, hEA⟩ := hE9.read (Nat.le_trans HP.out.size HO9.out.size)
    have hel := entsP_length rs L.h.base
    obtain ⟨k, hk⟩ : ∃ k, rs.length = k := ⟨_, rfl⟩
    rw [hk] at hel
    have hkL : k ≤ 100000 := by
      have h1 := HOK.out.fit.ok.cnt
      have h2 := HOK.out.fit.recs.cnt
      omega
    have CEL : Hid (∀ W, Below w9.heap.size w9 W → W.cell? ⟨gpl, 7, none⟩ = some (.slice AE k cE)) := Lib.hid fun W hW => by
      have k9 := HP.out.blk.only HO9.out HP.out.nH
      have := (k9.below hW k9.lt).cell 7
      rw [hel] at this
      exact this
    have HFIN : Hid (∀ W, Below w9.heap.size w9 W → Below w.heap.size w W) := Lib.hid fun W hW => by
      have x9 := HB6.out.trans (HO9.out.below HB6.out.size hlo)
      exact x9.trans (hW.mono x9.size)
    have hb9 := below_drew8 w9 w9.heap.size
    have hLd := hL9.below hb9
    have cck : Calls Try.prog 25 #[.pointer (some ⟨gl9, 0, none⟩)] w9.drew fun e w' => e = .returned (.int .u64 (at' : Nat)) ∧ w9.drew = w' := by
      have := check_any hLd.log.blk
      rw [e1, ha3] at this
      exact this
    have hbq : (openL ((markD L D at').crash fs)).h.base = L.h.base := by rw [e1, ha4]
    have cnt : Calls Try.prog 18 #[.pointer (some ⟨gl9, 0, none⟩), .int .u64 0] w9.drew (EntsPost w9.drew.heap.size w9.drew (entsP L.h.base rs)) := by
      have := ents_any hLd hfit9 0 (by decide)
      rw [atP_zeroM (by rw [e1]; exact hpos), hbq] at this
      exact this
    have CSM : Hid (∀ A10 c10 w10, Below w9.drew.heap.size w9.drew w10 → EntsAt w10 w10.heap.size A10 (entsP L.h.base rs) → Calls Try.prog 20 #[.slice A10 k c10, .slice AE k cE] w10 fun e w' => e = .returned (.bool true) ∧ Below w10.heap.size w10 w') := Lib.hid fun A10 c10 w10 hb hat => by
      have hb' := hb9.trans hb
      have := sames_any c10 cE w10.heap.size hat ((hEA.below hb').more hb'.size) (Nat.le_refl _) (ents_shortM HOK.out.fit L.h.base) (by rw [hel]; exact hkL)
      rw [hel] at this
      exact this
    have x0 := CEL.out w9.drew hb9
    have HEL := Lib.hid hel
    have HB9 := Lib.hid hb9
    clear cop hop e1 e2 e3 hfit9 hpos hL9 hF9 hG9 hO9 hE9 hEA hel hk hb9 hLd hbq hlo ha1 ha2 ha3 ha4 ha5 c0
    go_wp2_with fail
    go_region_held3 (fun W => W.cell? ⟨gpl, 7, none⟩ = some (.slice AE k cE))
      (first | with_reducible (exact x0) | with_reducible (exact x2) | with_reducible (exact x3) | fail)
      (first
        | ((with_reducible refine cck.mono ?_); rintro e wz ⟨rfl, rfl⟩)
        | ((with_reducible refine cnt.mono ?_); rintro e w10 ⟨hb10, A10, c10, rfl, hat⟩; rw [HEL.out]; have x2 := CEL.out w10 (HB9.out.trans hb10); have csm := CSM.out A10 c10 w10 hb10 hat; have HX := Lib.hid (HB9.out.trans hb10))
        | ((with_reducible refine csm.mono ?_); rintro e w11 ⟨rfl, hb11⟩; have hx11 := HX.out.trans (hb11.mono HX.out.size); have x3 := CEL.out w11 hx11; have HZ := Lib.hid (HFIN.out w11 hx11))
        | fail)
    all_goals
      go_wp2
      go_ret
      exact ⟨rfl, HZ.out⟩
end Go.Proofs.Ytkganajbilnanaa
