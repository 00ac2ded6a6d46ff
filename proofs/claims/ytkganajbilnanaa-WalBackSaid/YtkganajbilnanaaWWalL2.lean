/- WalBack: the law's walk. Conditions: the calls lie there. -/
import Derived.Test.YtkganajbilnanaaWWalEn
import Derived.Test.YtkganajbilnanaaWWalArgs
namespace Go.Proofs.Ytkganajbilnanaa
open Go.ChangeShapes Go.WideShapes Go.ChangeAt Go.RowKit
open NumMath
set_option linter.unusedVariables false
set_option linter.unusedSimpArgs false
set_option maxRecDepth 20000

theorem WOpsAt.moreB {w : World} {B B' : Nat} {A : Option Addr} {l : List WOp} (h : WOpsAt w B A l) (hB : B ≤ B') : WOpsAt w B' A l := fun j hj => by
  obtain ⟨b, o, m, Af, cf, e, h0, hc, hv⟩ := h j hj
  exact ⟨b, o, m, Af, cf, e, by omega, hc, ⟨hv.rc.more hB, ⟨hv.fa.1.more hB, hv.fa.2⟩, hv.kind, hv.spare, hv.at_⟩⟩
theorem heavy8_noB {size : Int} {l : List WOp} (h : heavy8 size l = false) : size ≤ 120 ∧ l.length ≤ 40 := by
  unfold heavy8 at h
  simp only [Bool.or_eq_false_iff, decide_eq_false_iff_not] at h
  omega
theorem max8B (size : Int) (h : size ≤ 120) : ∃ a : Nat, (if size < 18 then 18 else size) = (a : Int) ∧ 18 ≤ a ∧ a ≤ 1400 := by
  split
  · exact ⟨18, rfl, by omega, by omega⟩
  · exact ⟨size.toNat, by omega, by omega, by omega⟩
/-- the records' tables are short -/
theorem ents_short {L : LogP} {rs : List RecP} (h : L.fit rs) (p : Nat) : ∀ e ∈ entsP p rs, e.2.txns.length ≤ 100000 ∧ e.2.pages.length ≤ 100000 := fun e he => by
  obtain ⟨j, hj, rfl⟩ := List.mem_iff_getElem.1 he
  rw [entsP_length] at hj
  have h1 := entsP_at rs p j hj
  rw [List.getElem?_eq_getElem (by rw [entsP_length]; exact hj)] at h1
  rw [Option.some.inj h1]
  obtain ⟨hok, -⟩ := h.recs.good _ (List.getElem_mem hj)
  unfold okR at hok
  simp only [Bool.and_eq_true, decide_eq_true_eq] at hok
  exact ⟨by show rs[j].txns.length ≤ _; omega, by show rs[j].pages.length ≤ _; omega⟩
theorem Ok8.pos {L : LogP} {D : DevP} {rs : List RecP} {i : Nat} (h : Ok8 L D rs i) : 0 < L.h.base := by
  obtain ⟨C, q⟩ := h.inv
  have := q.may.lo
  omega
theorem atP_zero {L : LogP} (h : 0 < L.h.base) : atP L 0 = (0, false) := by
  unfold atP
  rw [if_pos h]
theorem Ok8.many {L : LogP} {D : DevP} {rs : List RecP} {i : Nat} (h : Ok8 L D rs i) : rs.length ≤ 100000 := by
  have h1 := h.fit.ok.cnt
  have h2 := h.fit.recs.cnt
  omega
set_option maxHeartbeats 16000000 in
theorem walBack_walk (v0 v1 : Value) (w : World) (w0 : IsInt .i64 w v0) (w1 : IsOps8 w v1) :
    Calls Try.prog 5 #[v0, v1] w fun e w' => e = .returned (.bool true) ∧ Below w.heap.size w w' := by
  obtain ⟨sz, rfl, -⟩ := w0
  obtain ⟨A, c, l, rfl, hl⟩ := w1
  have ch := heavy8_any sz A c l w.heap.size w hl (Nat.le_refl _)
  obtain ⟨n, hn⟩ : ∃ n, l.length = n := ⟨_, rfl⟩
  rw [hn] at ch
  rw [hn]
  obtain ⟨hv, hhv⟩ : ∃ q, heavy8 sz l = q := ⟨_, rfl⟩
  rw [hhv] at ch
  have HL := Lib.hid hl
  have HN := Lib.hid hn
  have HHV := Lib.hid hhv
  clear hn hhv hl
  go_enter Try.func5, Try.ntmps5
  cases hv with
  | true =>
    go_wp2_with fail
    refine ch.mono ?_
    rintro e w2 ⟨rfl, hb2⟩
    go_wp2_with fail
    refine (kn_any w2).mono ?_
    rintro e w3 ⟨rfl, hb3⟩
    go_wp2
    go_ret
    exact ⟨rfl, hb2.trans (hb3.mono hb2.size)⟩
  | false =>
    go_wp2_with fail
    refine ch.mono ?_
    rintro e w4 ⟨rfl, hb4⟩
    clear ch
    go_wp2_with fail
    refine (kn_any w4).mono ?_
    rintro e w5 ⟨rfl, hb5⟩
    have hb5 := hb4.trans (hb5.mono hb4.size)
    have HB5 := Lib.hid hb5
    clear hb4 hb5
    obtain ⟨hs120, hl40⟩ := heavy8_noB HHV.out
    obtain ⟨a, hmax, ha1, ha2⟩ := max8B sz hs120
    have crun := run8_any sz a hmax ha1 ha2 A c l w5 ((HL.out.below HB5.out).moreB HB5.out.size) hl40
    rw [HN.out] at crun
    have hok := ok8_play ha1 ha2 HL.out.good l.length (Nat.le_refl _) (by omega)
    rw [List.take_of_length_le (Nat.le_refl _)] at hok
    have HOK := Lib.hid hok
    clear hok hs120 hl40 hmax ha1 ha2 HHV HL
    go_wp2_with fail
    refine crun.mono ?_
    rintro e w6 ⟨gpl, gl, pd, rfl, hb6, hpl⟩
    clear crun
    obtain ⟨S, hS⟩ : ∃ s, playP (start8 a) l = s := ⟨_, rfl⟩
    rw [hS] at hpl HOK
    obtain ⟨L, D, rs⟩ := S
    obtain ⟨H, wb, wl, wes, wv, iv, hp⟩ := hpl
    have HOK : Hid (Ok8 L D rs l.length) := Lib.hid HOK.out
    dsimp only at hp
    have HB6 := Lib.hid (HB5.out.trans (hb6.mono HB5.out.size))
    obtain ⟨F, G, gl', sv, st, hpe, hLg, hH⟩ := hp.log
    injection hpe with hpe
    injection hpe with hpe
    injection hpe with hpe
    subst hpe
    have C1 : Hid (∀ W, Below w6.heap.size w6 W → W.cell? ⟨gpl, 1, none⟩ = some (.pointer (some ⟨gl, 0, none⟩))) := Lib.hid fun W hW => (hp.blk.below hW hp.blk.lt).cell 1
    have HLG := Lib.hid hLg
    obtain ⟨AE, cE, rfl, hEA⟩ := hp.is.read hp.size
    have c7 : w6.cell? ⟨gpl, 7, none⟩ = some (.slice AE (entsP L.h.base rs).length cE) := hp.blk.cell 7
    have hel := entsP_length rs L.h.base
    obtain ⟨k, hk⟩ : ∃ k, rs.length = k := ⟨_, rfl⟩
    rw [hk] at hel
    rw [hel] at c7
    have HEA := Lib.hid hEA
    have HEL := Lib.hid hel
    have HK := Lib.hid hk
    have c1 := C1.out w6 (Below.refl _ _)
    have cba := base_any hLg.log.blk
    obtain ⟨bs, hbs⟩ : ∃ b, L.h.base = b := ⟨_, rfl⟩
    rw [hbs] at cba
    have HBS := Lib.hid hbs
    clear hp hH hLg hb6 hS hel hk hEA hbs HB5
    go_wp2_with fail
    refine cba.mono ?_
    rintro e wz ⟨rfl, rfl⟩
    clear cba
    have hkL : k ≤ 100000 := by rw [← HK.out]; exact HOK.out.many
    go_wp2_with fail
    go_loopw [6, 8] (fun v6 v8 wr => ∃ (i : Nat), i ≤ k ∧ v8 = .int .i64 (i : Nat) ∧ v6 = .int .u64 ((bs + offK rs i : Nat) : Int) ∧ Below w6.heap.size w6 wr) (fun _ iv _ => k - (intOf iv).toNat)
    case atStart => exact ⟨0, Nat.zero_le _, rfl, rfl, Below.refl _ _⟩
    case round =>
      obtain ⟨i, hi, rfl, rfl, hb⟩ := hrel
      clear c1 c7
      have c1 := C1.out wr hb
      obtain ⟨q, hq⟩ : ∃ q, bs + offK rs i = q := ⟨_, rfl⟩
      rw [hq]
      have hLr := HLG.out.below hb
      rcases Nat.lt_or_ge i k with hlt | hge
      · have e1 : decide ((i : Int) < (k : Int)) = true := by rw [decide_eq_true_iff]; omega
        have e2 : (0 : Int) ≤ (i : Int) := by omega
        have e3 : (i : Int) < (k : Int) := by omega
        have hir : i < rs.length := by rw [HK.out]; exact hlt
        have hfit := HOK.out.fit
        have hbase := hfit.base
        have hle := offK_le rs i
        have hsl : (rs.flatMap encL).length = L.stream.length := by rw [hfit.recs.stream]
        have hq64 : q < 18446744073709551616 := by have := HBS.out; omega
        have crd := rd_any hLr hfit q hq64
        have HQ : Hid (q = L.h.base + offK rs i) := Lib.hid (by rw [HBS.out]; exact hq.symm)
        have HIR := Lib.hid hir
        have HB := Lib.hid hb
        clear hir hfit hbase hle hsl hq hLr hb
        go_wp2_with fail
        refine crd.mono ?_
        rintro e w5' ⟨hb5, hor⟩
        clear crd c1
        rcases hor with ⟨k', r, m1, hr', hq', rfl, hfr⟩ | ⟨hno, -⟩
        rotate_left
        · exact absurd HQ.out (hno i HIR.out)
        have hkk : k' = i := by
          have h1 := HOK.out.fit.recs.hit (List.getElem?_eq_some_iff.1 hr').1
          have h2 := HOK.out.fit.recs.hit HIR.out
          rw [← hq'] at h1
          rw [← HQ.out] at h2
          have := congrArg Prod.fst (h1.symm.trans h2)
          exact this
        subst hkk
        have hgr := List.getElem?_eq_some_iff.1 hr'
        have hoff := offK_succ HIR.out
        obtain ⟨hokr, -⟩ := HOK.out.fit.recs.good r (List.mem_of_getElem? hr')
        have hshort : r.txns.length ≤ 100000 ∧ r.pages.length ≤ 100000 := by
          unfold okR at hokr
          simp only [Bool.and_eq_true, decide_eq_true_eq] at hokr
          omega
        have hlen := (encL_len hokr).1
        obtain ⟨nx, hnx⟩ : ∃ x, q + (encL r).length = x := ⟨_, rfl⟩
        rw [hnx]
        have TN : Hid (¬ nx ≤ q) := Lib.hid (by omega)
        have HNX : Hid (nx = bs + offK rs (k' + 1)) := Lib.hid (by
          have h3 := hgr.2
          rw [← HBS.out, ← hnx, hoff, h3]
          have := HQ.out
          omega)
        have hb6' := HB.out.trans (hb5.mono HB.out.size)
        have hes : k' < (entsP L.h.base rs).length := by rw [HEL.out]; exact hlt
        obtain ⟨b2, o2, m2, hAE, hb2, hc2, hr2⟩ := (HEA.out.below hb6') k' hes
        have hx2 : (entsP L.h.base rs)[k'] = (q, r) := by
          have h1 := entsP_at rs L.h.base k' hgr.1
          rw [List.getElem?_eq_getElem hes] at h1
          rw [Option.some.inj h1, hgr.2, HQ.out]
        rw [hx2] at hc2 hr2
        have kx := Blk.new w5' 32 (recA r m1)
        have hbx := below_alloc w5' (.cells (recA r m1) 32)
        have hst2 := store_rec_new w5' r m1
        have hrx := hfr.at_.below hbx
        have HB6' := Lib.hid hb6'
        have HC2 := Lib.hid hc2
        have HR2 := Lib.hid hr2
        have HHB2 := Lib.hid hb2
        clear hr' hq' hfr hgr hoff hokr hlen hnx hb5 hb6' hes hc2 hr2 hx2 hb2
        go_upto_region 12 with (first
          | (refine wpList_store_run rfl 32 (.tmp 9) (.tmp 48) _ _ rfl rfl rfl hst2 ?_; clear hst2)
          | fail)
        generalize World.alloc w5' _ = w8 at *
        obtain ⟨g5, hg5⟩ : ∃ g, w5'.heap.size = g := ⟨_, rfl⟩
        rw [hg5] at kx
        rw [hg5]
        obtain ⟨q2, hq2⟩ : ∃ q, o2 + k' * 13 = q := ⟨_, rfl⟩
        rw [hq2] at HC2
        have hb8 : Below w6.heap.size w6 w8 := HB6'.out.trans (hbx.mono HB6'.out.size)
        have hs5 := hbx.size
        have hs6 := HB6'.out.size
        have CEL : Hid (∀ W, Below w8.heap.size w8 W → W.cell? ⟨g5, 0, none⟩ = some (.int .u8 (r.kind : Nat)) ∧ W.cell? ⟨g5, 1, none⟩ = some (.int .u32 (r.txn : Nat)) ∧ W.cell? ⟨g5, 2, none⟩ = some (.int .u64 (r.prev : Nat)) ∧ W.cell? ⟨g5, 3, none⟩ = some (.int .u64 (r.next : Nat)) ∧ W.cell? ⟨g5, 4, none⟩ = some (.int .u32 (r.chg.page : Nat)) ∧ W.cell? ⟨g5, 5, none⟩ = some (.int .u16 (r.chg.slot : Nat)) ∧ W.cell? ⟨g5, 6, none⟩ = some (.bool r.chg.had) ∧ W.cell? ⟨g5, 7, none⟩ = some (.bool r.chg.has) ∧ W.cell? ⟨g5, 8, none⟩ = some (.slice m1.cm.A1 r.chg.before.length m1.cm.c1) ∧ W.cell? ⟨g5, 9, none⟩ = some (.slice m1.cm.A2 r.chg.after.length m1.cm.c2) ∧ W.cell? ⟨g5, 10, none⟩ = some (.slice m1.A3 r.txns.length m1.c3) ∧ W.cell? ⟨g5, 11, none⟩ = some (.slice m1.A4 r.pages.length m1.c4) ∧ W.cell? ⟨b2, q2 + 1, none⟩ = some (.int .u8 (r.kind : Nat)) ∧ W.cell? ⟨b2, q2 + 2, none⟩ = some (.int .u32 (r.txn : Nat)) ∧ W.cell? ⟨b2, q2 + 3, none⟩ = some (.int .u64 (r.prev : Nat)) ∧ W.cell? ⟨b2, q2 + 4, none⟩ = some (.int .u64 (r.next : Nat)) ∧ W.cell? ⟨b2, q2 + 5, none⟩ = some (.int .u32 (r.chg.page : Nat)) ∧ W.cell? ⟨b2, q2 + 6, none⟩ = some (.int .u16 (r.chg.slot : Nat)) ∧ W.cell? ⟨b2, q2 + 7, none⟩ = some (.bool r.chg.had) ∧ W.cell? ⟨b2, q2 + 8, none⟩ = some (.bool r.chg.has) ∧ W.cell? ⟨b2, q2 + 9, none⟩ = some (.slice m2.cm.A1 r.chg.before.length m2.cm.c1) ∧ W.cell? ⟨b2, q2 + 10, none⟩ = some (.slice m2.cm.A2 r.chg.after.length m2.cm.c2) ∧ W.cell? ⟨b2, q2 + 11, none⟩ = some (.slice m2.A3 r.txns.length m2.c3) ∧ W.cell? ⟨b2, q2 + 12, none⟩ = some (.slice m2.A4 r.pages.length m2.c4) ∧ W.cell? ⟨b2, q2, none⟩ = some (.int .u64 (q : Nat))) := Lib.hid fun W hW => by
          have k1 := kx.below hW kx.lt
          have hb2' := HHB2.out
          have k2 := fun j v (z : (entA (q, r) m2)[j]? = some v) => (hW.cell (p := ⟨b2, q2 + j, none⟩) (by show b2 < _; omega)).trans ((hbx.cell (p := ⟨b2, q2 + j, none⟩) (by show b2 < _; omega)).trans (HC2.out j v z))
          exact ⟨k1.cell 0, k1.cell 1, k1.cell 2, k1.cell 3, k1.cell 4, k1.cell 5, k1.cell 6, k1.cell 7, k1.cell 8, k1.cell 9, k1.cell 10, k1.cell 11, k2 1 _ rfl, k2 2 _ rfl, k2 3 _ rfl, k2 4 _ rfl, k2 5 _ rfl, k2 6 _ rfl, k2 7 _ rfl, k2 8 _ rfl, k2 9 _ rfl, k2 10 _ rfl, k2 11 _ rfl, k2 12 _ rfl, k2 0 _ rfl⟩
        have x0 := CEL.out w8.drew (below_drew8 w8 _)
        have csm : Calls Try.prog 23 #[.agg #[.int .u8 (r.kind : Nat), .int .u32 (r.txn : Nat), .int .u64 (r.prev : Nat), .int .u64 (r.next : Nat), .int .u32 (r.chg.page : Nat), .int .u16 (r.chg.slot : Nat), .bool r.chg.had, .bool r.chg.has, .slice m1.cm.A1 r.chg.before.length m1.cm.c1, .slice m1.cm.A2 r.chg.after.length m1.cm.c2, .slice m1.A3 r.txns.length m1.c3, .slice m1.A4 r.pages.length m1.c4], .agg #[.int .u8 (r.kind : Nat), .int .u32 (r.txn : Nat), .int .u64 (r.prev : Nat), .int .u64 (r.next : Nat), .int .u32 (r.chg.page : Nat), .int .u16 (r.chg.slot : Nat), .bool r.chg.had, .bool r.chg.has, .slice m2.cm.A1 r.chg.before.length m2.cm.c1, .slice m2.cm.A2 r.chg.after.length m2.cm.c2, .slice m2.A3 r.txns.length m2.c3, .slice m2.A4 r.pages.length m2.c4]] w8.drew (SamePost r r w8.drew) := same_rec r r m1 m2 w8.heap.size w8.drew ((hrx.more hs5).below (below_drew8 w8 _)) (((HR2.out.below (hbx.mono hs6)).more (Nat.le_trans hs6 hs5)).below (below_drew8 w8 _)) (Nat.le_refl _) hshort.1 hshort.2
        have HB8 := Lib.hid hb8
        clear hrx kx hbx hshort hg5 hs5 hs6 hb8 HC2 HR2 HHB2
        subst hAE
        go_cut [76] (fun v76 wx => v76 = .bool false ∧ Below w8.heap.size w8 wx)
        case first =>
          go_wp2_with fail
          go_region_held3 (fun W => W.cell? ⟨g5, 0, none⟩ = some (.int .u8 (r.kind : Nat)) ∧ W.cell? ⟨g5, 1, none⟩ = some (.int .u32 (r.txn : Nat)) ∧ W.cell? ⟨g5, 2, none⟩ = some (.int .u64 (r.prev : Nat)) ∧ W.cell? ⟨g5, 3, none⟩ = some (.int .u64 (r.next : Nat)) ∧ W.cell? ⟨g5, 4, none⟩ = some (.int .u32 (r.chg.page : Nat)) ∧ W.cell? ⟨g5, 5, none⟩ = some (.int .u16 (r.chg.slot : Nat)) ∧ W.cell? ⟨g5, 6, none⟩ = some (.bool r.chg.had) ∧ W.cell? ⟨g5, 7, none⟩ = some (.bool r.chg.has) ∧ W.cell? ⟨g5, 8, none⟩ = some (.slice m1.cm.A1 r.chg.before.length m1.cm.c1) ∧ W.cell? ⟨g5, 9, none⟩ = some (.slice m1.cm.A2 r.chg.after.length m1.cm.c2) ∧ W.cell? ⟨g5, 10, none⟩ = some (.slice m1.A3 r.txns.length m1.c3) ∧ W.cell? ⟨g5, 11, none⟩ = some (.slice m1.A4 r.pages.length m1.c4) ∧ W.cell? ⟨b2, q2 + 1, none⟩ = some (.int .u8 (r.kind : Nat)) ∧ W.cell? ⟨b2, q2 + 2, none⟩ = some (.int .u32 (r.txn : Nat)) ∧ W.cell? ⟨b2, q2 + 3, none⟩ = some (.int .u64 (r.prev : Nat)) ∧ W.cell? ⟨b2, q2 + 4, none⟩ = some (.int .u64 (r.next : Nat)) ∧ W.cell? ⟨b2, q2 + 5, none⟩ = some (.int .u32 (r.chg.page : Nat)) ∧ W.cell? ⟨b2, q2 + 6, none⟩ = some (.int .u16 (r.chg.slot : Nat)) ∧ W.cell? ⟨b2, q2 + 7, none⟩ = some (.bool r.chg.had) ∧ W.cell? ⟨b2, q2 + 8, none⟩ = some (.bool r.chg.has) ∧ W.cell? ⟨b2, q2 + 9, none⟩ = some (.slice m2.cm.A1 r.chg.before.length m2.cm.c1) ∧ W.cell? ⟨b2, q2 + 10, none⟩ = some (.slice m2.cm.A2 r.chg.after.length m2.cm.c2) ∧ W.cell? ⟨b2, q2 + 11, none⟩ = some (.slice m2.A3 r.txns.length m2.c3) ∧ W.cell? ⟨b2, q2 + 12, none⟩ = some (.slice m2.A4 r.pages.length m2.c4) ∧ W.cell? ⟨b2, q2, none⟩ = some (.int .u64 (q : Nat)))
            (first | with_reducible (exact x0) | with_reducible (exact x2) | fail)
            (first
              | ((with_reducible refine csm.mono ?_); rintro e w3 ⟨⟨bb, rfl, hbb⟩, hb3⟩; have ebb := hbb.2 rfl; subst ebb; have x2 := CEL.out w3 ((below_drew8 w8 _).trans hb3); have H3 := Lib.hid hb3)
              | fail)
          all_goals
            go_wp2
            go_meet
            case rel => exact ⟨by rw [decide_eq_false TN.out], (below_drew8 w8 _).trans H3.out⟩
        case rest =>
          rename World => wx
          obtain ⟨rfl, hbx⟩ := hcut
          have HX := Lib.hid (HB8.out.trans (hbx.mono HB8.out.size))
          clear hbx CEL csm x0 HB8
          go_wp2
          go_roundw
          case rel => exact ⟨k' + 1, by omega, by go_num, by rw [HNX.out], HX.out⟩
          case measure => simp [intOf]; omega
      · obtain rfl : i = k := by omega
        have e1 : decide ((i : Int) < (i : Int)) = false := by rw [decide_eq_false_iff_not]; omega
        have hfit := HOK.out.fit
        have hbase := hfit.base
        have hq1 : L.h.base + L.stream.length = q := by
          rw [← hq, HBS.out, offK_all rs (by rw [HK.out]; exact Nat.le_refl _), ← hfit.recs.stream]
        obtain ⟨A7, c7, rfl, -, -⟩ := HLG.out.log.bytes
        have cen := end_any hLr.log.blk (by omega)
        rw [hq1] at cen
        have HB := Lib.hid hb
        clear hq hq1 hbase hfit hLr hb
        go_wp2_with fail
        refine cen.mono ?_
        rintro e w9 ⟨rfl, hd9⟩
        have hb9 := HB.out.trans ((hd9.below wr.heap.size).mono HB.out.size)
        have c1 := C1.out w9 hb9
        have cnt : Calls Try.prog 18 #[.pointer (some ⟨gl, 0, none⟩), .int .u64 0] w9 (EntsPost w9.heap.size w9 (entsP L.h.base rs)) := by
          have := ents_any (HLG.out.below hb9) HOK.out.fit 0 (by decide)
          rw [atP_zero HOK.out.pos] at this
          exact this
        have HB9 := Lib.hid hb9
        clear cen hd9 hb9
        go_wp2_with fail
        refine cnt.mono ?_
        rintro e w10 ⟨hb10, A10, c10, rfl, hat⟩
        have hb10 := HB9.out.trans (hb10.mono HB9.out.size)
        have csm := sames_any c10 cE w10.heap.size hat ((HEA.out.below hb10).more hb10.size) (Nat.le_refl _) (ents_short HOK.out.fit L.h.base) (by rw [HEL.out]; exact hkL)
        rw [HEL.out] at csm
        rw [HEL.out]
        have HB10 := Lib.hid hb10
        clear cnt hat hb10 c1
        go_wp2_with fail
        refine csm.mono ?_
        rintro e w11 ⟨rfl, hb11⟩
        have HF := Lib.hid (HB6.out.trans ((HB10.out.trans (hb11.mono HB10.out.size)).mono HB6.out.size))
        clear csm hb11
        go_wp2
        go_ret
        exact ⟨rfl, HF.out⟩
end Go.Proofs.Ytkganajbilnanaa
