/- wal's law: reads, place. Conditions: both logs lie there. (Printed by gen_zreads.py.) -/
import Derived.Test.YtkganajbilnanaaGreatYZTwo
import Derived.Test.YtkganajbilnanaaGreatYRE
set_option linter.unusedVariables false
set_option linter.unusedSimpArgs false
namespace Go.Proofs.YtkganajbilnanaaGreat
open Go.ChangeShapes Go.WideShapes Go.ChangeAt Go.RowKit
open NumMath
set_option maxRecDepth 20000
theorem rec_short {L : LogP} {rs : List RecP} (h : L.fit rs) {r : RecP} (hr : r ∈ rs) : r.txns.length ≤ 100000 ∧ r.pages.length ≤ 100000 := by
  obtain ⟨hok, -⟩ := h.recs.good _ hr
  unfold okR at hok
  simp only [Bool.and_eq_true, decide_eq_true_eq] at hok
  exact ⟨by omega, by omega⟩
theorem from_short {L : LogP} {rs : List RecP} (h : L.fit rs) (lsn : Nat) : ∀ e ∈ fromP lsn (entsP L.h.base rs), e.2.txns.length ≤ 100000 ∧ e.2.pages.length ≤ 100000 := fun e he => by
  unfold fromP at he
  have he := (List.mem_filter.1 he).1
  obtain ⟨j, hj, rfl⟩ := List.mem_iff_getElem.1 he
  rw [entsP_length] at hj
  have h1 := entsP_at rs L.h.base j hj
  rw [List.getElem?_eq_getElem (by rw [entsP_length]; exact hj)] at h1
  rw [Option.some.inj h1]
  exact rec_short h (List.getElem_mem hj)
theorem from_cnt {L : LogP} {rs : List RecP} (h : L.fit rs) (lsn : Nat) : (fromP lsn (entsP L.h.base rs)).length ≤ 100000 := by
  have h1 := fromP_le lsn (entsP L.h.base rs) (entsP L.h.base rs).length
  rw [List.take_length, entsP_length] at h1
  have h2 := h.ok.cnt
  have h3 := h.recs.cnt
  omega
theorem recz_from {lo : Nat} {w : World} : RecFrom lo w recZ memZ := fun W hW => ⟨⟨Bytes.nil _ _ _, Bytes.nil _ _ _, Nat.le_refl _, Nat.le_refl _, chgZ0_fits⟩, (fun j hj => absurd hj (by simp [recZ])), (fun j hj => absurd hj (by simp [recZ])), ⟨by decide, by decide, by decide, by decide, chgZ0_fits, (fun x hx => by cases hx), (fun x hx => by cases hx)⟩⟩
def AnsP (L : LogP) (rs : List RecP) (lsn : Nat) (r : RecP) (n x : Nat) : Prop := (∃ k, rs[k]? = some r ∧ lsn = L.h.base + offK rs k ∧ n = lsn + (encL r).length ∧ x = 0) ∨ ((∀ k, k < rs.length → lsn ≠ L.h.base + offK rs k) ∧ r = recZ ∧ n = 0 ∧ x = 81)
theorem AnsP.same {L : LogP} {rs : List RecP} {lsn : Nat} {r r' : RecP} {n x n' x' : Nat} (hk : L.fit rs) (h : AnsP L rs lsn r n x) (h' : AnsP L rs lsn r' n' x') : r' = r ∧ n' = n ∧ x' = x := by
  rcases h with ⟨k, h1, h2, h3, h4⟩ | ⟨h1, h2, h3, h4⟩ <;> rcases h' with ⟨k', g1, g2, g3, g4⟩ | ⟨g1, g2, g3, g4⟩
  · have hk1 := (List.getElem?_eq_some_iff.1 h1).1
    have hk2 := (List.getElem?_eq_some_iff.1 g1).1
    have e1 := hk.recs.hit hk1
    have e2 := hk.recs.hit hk2
    rw [← h2] at e1
    rw [← g2] at e2
    have e3 : k = k' := congrArg Prod.fst (e1.symm.trans e2)
    subst e3
    rw [h1] at g1
    injection g1 with g1
    subst g1
    exact ⟨rfl, by rw [g3, h3], by rw [g4, h4]⟩
  · exact absurd h2 (g1 k (List.getElem?_eq_some_iff.1 h1).1)
  · exact absurd g2 (h1 k' (List.getElem?_eq_some_iff.1 g1).1)
  · exact ⟨by rw [g2, h2], by rw [g3, h3], by rw [g4, h4]⟩
theorem AnsP.short {L : LogP} {rs : List RecP} {lsn : Nat} {r : RecP} {n x : Nat} (hk : L.fit rs) (h : AnsP L rs lsn r n x) : (r.txns.length ≤ 100000 ∧ r.pages.length ≤ 100000) ∧ x < 100 := by
  rcases h with ⟨k, h1, h2, h3, h4⟩ | ⟨h1, h2, h3, h4⟩
  · exact ⟨rec_short hk (List.mem_of_getElem? h1), by omega⟩
  · rw [h2]
    exact ⟨by decide, by omega⟩
theorem ReadRP.ans {L : LogP} {rs : List RecP} {lsn : Nat} {w w' : World} {e : Ending} (h : ReadRP L rs lsn w e w') : Below w.heap.size w w' ∧ ∃ r m n x, e = .returned (.tuple #[.agg (recA r m), .int .u64 (n : Nat), .int .u16 (x : Nat)]) ∧ AnsP L rs lsn r n x ∧ RecFrom w.heap.size w' r m := by
  obtain ⟨hb, h⟩ := h
  refine ⟨hb, ?_⟩
  rcases h with ⟨k, r, m, h1, h2, h3, h4⟩ | ⟨h1, h2⟩
  · exact ⟨r, m, _, 0, h3, .inl ⟨k, h1, h2, rfl, rfl⟩, h4⟩
  · exact ⟨recZ, memZ, 0, 81, h2, .inr ⟨h1, rfl, rfl, rfl⟩, recz_from⟩
theorem RReadRP.ans {L : LogP} {rs : List RecP} {lsn : Nat} {w w' : World} {e : Ending} (h : RReadRP L rs lsn w e w') : Below w.heap.size w w' ∧ ∃ r m n x, e = .returned (.tuple #[.agg (recA r m), .int .u64 (n : Nat), .int .i64 (x : Nat)]) ∧ AnsP L rs lsn r n x ∧ RecFrom w.heap.size w' r m := by
  obtain ⟨hb, h⟩ := h
  refine ⟨hb, ?_⟩
  rcases h with ⟨k, r, m, h1, h2, h3, h4⟩ | ⟨h1, h2⟩
  · exact ⟨r, m, _, 0, h3, .inl ⟨k, h1, h2, rfl, rfl⟩, h4⟩
  · exact ⟨recZ, memZ, 0, 81, h2, .inr ⟨h1, rfl, rfl, rfl⟩, recz_from⟩
set_option maxHeartbeats 8000000 in
theorem treads_any {w0 w : World} {L : LogP} {D D' : DevP} {rs : List RecP} {gt ga gb : Nat} {pd pe : Value} (h : IsTwo w0 L D L D' w gt ga gb pd pe) (hk : L.fit rs) (hs62 : L.strips ≤ 62) (lsn : Nat) (hlsn : lsn < 18446744073709551616) :
    Calls Tryz.prog 12 #[.pointer (some ⟨gt, 0, none⟩), .int .u64 (lsn : Nat)] w fun e w' => e = .returned (.bool true) ∧ Below w.heap.size w w' := by
  obtain ⟨F, G, H, K, sv, st, sv', st', h⟩ := h
  have CR : Hid (∀ W, Below w.heap.size w W → Calls Tryz.prog 48 #[.pointer (some ⟨ga, 0, none⟩), .int .u64 (lsn : Nat)] W (ReadRP L rs lsn W)) := Lib.hid fun W hW => rd_any (h.below hW).a hk lsn hlsn
  have CQ : Hid (∀ W, Below w.heap.size w W → Calls Tryz.prog 49 #[.pointer (some ⟨gb, 0, none⟩), .int .u64 (lsn : Nat)] W (RReadRP L rs lsn W)) := Lib.hid fun W hW => rrd_any (h.below hW).b hk hs62 lsn hlsn
  obtain ⟨es, hes⟩ : ∃ es, fromP lsn (entsP L.h.base rs) = es := ⟨_, rfl⟩
  have CE : Hid (∀ W, Below w.heap.size w W → Calls Tryz.prog 52 #[.pointer (some ⟨ga, 0, none⟩), .int .u64 (lsn : Nat)] W (EntsPost W.heap.size W es)) := Lib.hid fun W hW => by
    have := ents_any (h.below hW).a hk lsn hlsn
    rw [← fromP_at hk.recs, hes] at this
    exact this
  have CF : Hid (∀ W, Below w.heap.size w W → Calls Tryz.prog 53 #[.pointer (some ⟨gb, 0, none⟩), .int .u64 (lsn : Nat)] W (EntsPost W.heap.size W es)) := Lib.hid fun W hW => by
    have := rents_any (h.below hW).b hk hs62 lsn hlsn
    rw [hes] at this
    exact this
  have HSH : Hid ((∀ e ∈ es, e.2.txns.length ≤ 100000 ∧ e.2.pages.length ≤ 100000) ∧ es.length ≤ 100000) := Lib.hid (by rw [← hes]; exact ⟨from_short hk lsn, from_cnt hk lsn⟩)
  have CB : Hid (∀ W, Below w.heap.size w W → W.cell? ⟨gt, 2, none⟩ = some (.pointer (some ⟨ga, 0, none⟩)) ∧ W.cell? ⟨gt, 3, none⟩ = some (.pointer (some ⟨gb, 0, none⟩))) := Lib.hid fun W hW => by
    have k := (h.below hW).blk
    exact ⟨k.cell 2, k.cell 3⟩
  have HFIT := Lib.hid hk
  obtain ⟨y2, -⟩ := CB.out w (Below.refl _ _)
  clear h hk hes hs62
  go_enter Tryz.func12, Tryz.ntmps12
  go_wp2_with fail
  refine (CR.out w (Below.refl _ _)).mono ?_
  rintro e w1 hans
  obtain ⟨hb1, r, m1, n, x, rfl, hA1, hF1⟩ := hans.ans
  have st1 := store_rec_new w1 r m1
  have k1 := Blk.new w1 51 (recA r m1)
  have ba1 := below_alloc w1 (.cells (recA r m1) 51)
  have hr1 := hF1.at_.below ba1
  have hw1 : w1.heap.size ≤ (w1.alloc (.cells (recA r m1) 51)).heap.size := ba1.size
  have hb2 := hb1.trans (ba1.mono hb1.size)
  clear y2 hans hF1 ba1 hb1
  go_upto_region 2 with (refine wpList_store_run rfl 51 (.tmp 5) (.tmp 18) _ _ rfl rfl rfl st1 ?_; clear st1)
  generalize hg5 : w1.heap.size = g5 at *
  generalize World.alloc w1 _ = w2 at *
  obtain ⟨-, y3⟩ := CB.out w2 hb2
  go_wp2_with fail
  refine (CQ.out w2 hb2).mono ?_
  rintro e w3 hans
  obtain ⟨hb3, r', m2, n', x', rfl, hA2, hF2⟩ := hans.ans
  obtain ⟨e1, e2, e3⟩ := AnsP.same HFIT.out hA1 hA2
  obtain rfl := e1.symm
  obtain rfl := e2.symm
  obtain rfl := e3.symm
  clear e1 e2 e3
  obtain ⟨hsh, hx100⟩ := hA1.short HFIT.out
  have st2 := store_rec_new w3 r m2
  have k2 := Blk.new w3 51 (recA r m2)
  have ba2 := below_alloc w3 (.cells (recA r m2) 51)
  have hr2 := hF2.at_.below ba2
  have hb23 := hb3.trans (ba2.mono hb3.size)
  have hb4 := hb2.trans (hb23.mono hb2.size)
  have hr1' := (hr1.more hw1).below hb23
  have k1' := k1.below hb23 k1.lt
  have hw3 : w3.heap.size ≤ (w3.alloc (.cells (recA r m2) 51)).heap.size := ba2.size
  have hw23 := hb23.size
  clear y3 hans hF2 ba2 hA1 hA2 hr1 k1 hb3 hb2
  go_upto_region 3 with (refine wpList_store_run rfl 51 (.tmp 8) (.tmp 28) _ _ rfl rfl rfl st2 ?_; clear st2)
  generalize hg8 : w3.heap.size = g8 at *
  generalize World.alloc w3 _ = w4 at *
  have CEL : Hid (∀ W, Below w4.heap.size w4 W → W.cell? ⟨g5, 0, none⟩ = some (.int .u8 (r.kind : Nat)) ∧ W.cell? ⟨g5, 1, none⟩ = some (.int .u32 (r.txn : Nat)) ∧ W.cell? ⟨g5, 2, none⟩ = some (.int .u64 (r.prev : Nat)) ∧ W.cell? ⟨g5, 3, none⟩ = some (.int .u64 (r.next : Nat)) ∧ W.cell? ⟨g5, 4, none⟩ = some (.int .u32 (r.chg.page : Nat)) ∧ W.cell? ⟨g5, 5, none⟩ = some (.int .u16 (r.chg.slot : Nat)) ∧ W.cell? ⟨g5, 6, none⟩ = some (.bool r.chg.had) ∧ W.cell? ⟨g5, 7, none⟩ = some (.bool r.chg.has) ∧ W.cell? ⟨g5, 8, none⟩ = some (.slice m1.cm.A1 r.chg.before.length m1.cm.c1) ∧ W.cell? ⟨g5, 9, none⟩ = some (.slice m1.cm.A2 r.chg.after.length m1.cm.c2) ∧ W.cell? ⟨g5, 10, none⟩ = some (.slice m1.A3 r.txns.length m1.c3) ∧ W.cell? ⟨g5, 11, none⟩ = some (.slice m1.A4 r.pages.length m1.c4) ∧ W.cell? ⟨g8, 0, none⟩ = some (.int .u8 (r.kind : Nat)) ∧ W.cell? ⟨g8, 1, none⟩ = some (.int .u32 (r.txn : Nat)) ∧ W.cell? ⟨g8, 2, none⟩ = some (.int .u64 (r.prev : Nat)) ∧ W.cell? ⟨g8, 3, none⟩ = some (.int .u64 (r.next : Nat)) ∧ W.cell? ⟨g8, 4, none⟩ = some (.int .u32 (r.chg.page : Nat)) ∧ W.cell? ⟨g8, 5, none⟩ = some (.int .u16 (r.chg.slot : Nat)) ∧ W.cell? ⟨g8, 6, none⟩ = some (.bool r.chg.had) ∧ W.cell? ⟨g8, 7, none⟩ = some (.bool r.chg.has) ∧ W.cell? ⟨g8, 8, none⟩ = some (.slice m2.cm.A1 r.chg.before.length m2.cm.c1) ∧ W.cell? ⟨g8, 9, none⟩ = some (.slice m2.cm.A2 r.chg.after.length m2.cm.c2) ∧ W.cell? ⟨g8, 10, none⟩ = some (.slice m2.A3 r.txns.length m2.c3) ∧ W.cell? ⟨g8, 11, none⟩ = some (.slice m2.A4 r.pages.length m2.c4) ∧ W.cell? ⟨gt, 2, none⟩ = some (.pointer (some ⟨ga, 0, none⟩)) ∧ W.cell? ⟨gt, 3, none⟩ = some (.pointer (some ⟨gb, 0, none⟩))) := Lib.hid fun W hW => by
    have q1 := k1'.below hW k1'.lt
    have q2 := k2.below hW k2.lt
    obtain ⟨z2, z3⟩ := CB.out W (hb4.trans (hW.mono hb4.size))
    exact ⟨q1.cell 0, q1.cell 1, q1.cell 2, q1.cell 3, q1.cell 4, q1.cell 5, q1.cell 6, q1.cell 7, q1.cell 8, q1.cell 9, q1.cell 10, q1.cell 11, q2.cell 0, q2.cell 1, q2.cell 2, q2.cell 3, q2.cell 4, q2.cell 5, q2.cell 6, q2.cell 7, q2.cell 8, q2.cell 9, q2.cell 10, q2.cell 11, z2, z3⟩
  have x0 := CEL.out w4.drew (below_drew8 w4 _)
  have csm : Calls Tryz.prog 50 #[.agg #[.int .u8 (r.kind : Nat), .int .u32 (r.txn : Nat), .int .u64 (r.prev : Nat), .int .u64 (r.next : Nat), .int .u32 (r.chg.page : Nat), .int .u16 (r.chg.slot : Nat), .bool r.chg.had, .bool r.chg.has, .slice m1.cm.A1 r.chg.before.length m1.cm.c1, .slice m1.cm.A2 r.chg.after.length m1.cm.c2, .slice m1.A3 r.txns.length m1.c3, .slice m1.A4 r.pages.length m1.c4], .agg #[.int .u8 (r.kind : Nat), .int .u32 (r.txn : Nat), .int .u64 (r.prev : Nat), .int .u64 (r.next : Nat), .int .u32 (r.chg.page : Nat), .int .u16 (r.chg.slot : Nat), .bool r.chg.had, .bool r.chg.has, .slice m2.cm.A1 r.chg.before.length m2.cm.c1, .slice m2.cm.A2 r.chg.after.length m2.cm.c2, .slice m2.A3 r.txns.length m2.c3, .slice m2.A4 r.pages.length m2.c4]] w4.drew (SamePost r r w4.drew) := same_rec r r m1 m2 w4.heap.size w4.drew ((hr1'.more hw23).below (below_drew8 w4 _)) ((hr2.more hw3).below (below_drew8 w4 _)) (Nat.le_refl _) hsh.1 hsh.2
  have V1 : Hid (IntKind.i64.wrap (x : Int) = (x : Int)) := Lib.hid (by rw [IntKind.wrap_i64]; omega)
  have HB4 := Lib.hid hb4
  clear hr1' hr2 k1' k2 hsh hb23 hw1 hw3 hw23 hg5 hg8 hb4 HFIT CR CQ CB hx100
  have v1 := V1.out
  go_region_held3 (fun W => W.cell? ⟨g5, 0, none⟩ = some (.int .u8 (r.kind : Nat)) ∧ W.cell? ⟨g5, 1, none⟩ = some (.int .u32 (r.txn : Nat)) ∧ W.cell? ⟨g5, 2, none⟩ = some (.int .u64 (r.prev : Nat)) ∧ W.cell? ⟨g5, 3, none⟩ = some (.int .u64 (r.next : Nat)) ∧ W.cell? ⟨g5, 4, none⟩ = some (.int .u32 (r.chg.page : Nat)) ∧ W.cell? ⟨g5, 5, none⟩ = some (.int .u16 (r.chg.slot : Nat)) ∧ W.cell? ⟨g5, 6, none⟩ = some (.bool r.chg.had) ∧ W.cell? ⟨g5, 7, none⟩ = some (.bool r.chg.has) ∧ W.cell? ⟨g5, 8, none⟩ = some (.slice m1.cm.A1 r.chg.before.length m1.cm.c1) ∧ W.cell? ⟨g5, 9, none⟩ = some (.slice m1.cm.A2 r.chg.after.length m1.cm.c2) ∧ W.cell? ⟨g5, 10, none⟩ = some (.slice m1.A3 r.txns.length m1.c3) ∧ W.cell? ⟨g5, 11, none⟩ = some (.slice m1.A4 r.pages.length m1.c4) ∧ W.cell? ⟨g8, 0, none⟩ = some (.int .u8 (r.kind : Nat)) ∧ W.cell? ⟨g8, 1, none⟩ = some (.int .u32 (r.txn : Nat)) ∧ W.cell? ⟨g8, 2, none⟩ = some (.int .u64 (r.prev : Nat)) ∧ W.cell? ⟨g8, 3, none⟩ = some (.int .u64 (r.next : Nat)) ∧ W.cell? ⟨g8, 4, none⟩ = some (.int .u32 (r.chg.page : Nat)) ∧ W.cell? ⟨g8, 5, none⟩ = some (.int .u16 (r.chg.slot : Nat)) ∧ W.cell? ⟨g8, 6, none⟩ = some (.bool r.chg.had) ∧ W.cell? ⟨g8, 7, none⟩ = some (.bool r.chg.has) ∧ W.cell? ⟨g8, 8, none⟩ = some (.slice m2.cm.A1 r.chg.before.length m2.cm.c1) ∧ W.cell? ⟨g8, 9, none⟩ = some (.slice m2.cm.A2 r.chg.after.length m2.cm.c2) ∧ W.cell? ⟨g8, 10, none⟩ = some (.slice m2.A3 r.txns.length m2.c3) ∧ W.cell? ⟨g8, 11, none⟩ = some (.slice m2.A4 r.pages.length m2.c4) ∧ W.cell? ⟨gt, 2, none⟩ = some (.pointer (some ⟨ga, 0, none⟩)) ∧ W.cell? ⟨gt, 3, none⟩ = some (.pointer (some ⟨gb, 0, none⟩)))
    (first | with_reducible (exact x0) | with_reducible (exact x2) | with_reducible (exact x3) | with_reducible (exact x4) | with_reducible (exact x5) | fail)
    (first
      | ((with_reducible refine csm.mono ?_); rintro e w5 ⟨⟨bb, rfl, hbb⟩, hb5⟩; have ebb := hbb.2 rfl; subst ebb; have b5 := (below_drew8 w4 w4.heap.size).trans hb5; have x2 := CEL.out w5 b5; have ce := CE.out w5 (HB4.out.trans (b5.mono HB4.out.size)))
      | ((with_reducible refine ce.mono ?_); rintro e w6 ⟨hb6, A6, c6, rfl, hat6⟩; have b6 := b5.trans (hb6.mono b5.size); have x3 := CEL.out w6 b6; have cf := CF.out w6 (HB4.out.trans (b6.mono HB4.out.size)))
      | ((with_reducible refine cf.mono ?_); rintro e w7 ⟨hb7, A7, c7, rfl, hat7⟩; have b7 := b6.trans (hb7.mono b6.size); have x4 := CEL.out w7 b7; have cg := sames_any c6 c7 w7.heap.size ((hat6.below hb7).more hb7.size) hat7 (Nat.le_refl _) HSH.out.1 HSH.out.2)
      | ((with_reducible refine cg.mono ?_); rintro e w8 ⟨rfl, hb8⟩; have b8 := b7.trans (hb8.mono b7.size); have x5 := CEL.out w8 b8)
      | fail)
  all_goals
    go_wp2
    go_ret
    exact ⟨rfl, HB4.out.trans (b8.mono HB4.out.size)⟩
theorem place_ents {L : LogP} {rs : List RecP} (h : L.recs rs) {k : Nat} (hk : k < L.starts.length) : ∃ r, (entsP L.h.base rs)[k]? = some (L.h.base + L.starts[k]?.getD 0, r) := by
  have hkr : k < rs.length := by rw [h.cnt] at hk; exact hk
  refine ⟨rs[k], ?_⟩
  rw [entsP_at rs L.h.base k hkr, h.at_ hkr]
  rfl
set_option maxHeartbeats 8000000 in
theorem tplace_any {w0 w : World} {L : LogP} {D D' : DevP} {rs : List RecP} {gt ga gb : Nat} {pd pe : Value} (h : IsTwo w0 L D L D' w gt ga gb pd pe) (hk : L.fit rs) (hs62 : L.strips ≤ 62) (lsn : Nat) (hlsn : lsn < 18446744073709551616) :
    Calls Tryz.prog 54 #[.pointer (some ⟨gt, 0, none⟩), .int .u64 (lsn : Nat)] w fun e w' => e = .returned (.int .u64 (placeP L lsn : Nat)) ∧ Below w.heap.size w w' := by
  obtain ⟨F, G, H, K, sv, st, sv', st', h⟩ := h
  have ce := rents_any h.b hk hs62 0 (by decide)
  rw [fromP_all] at ce
  have hel := entsP_length rs L.h.base
  rw [← hk.recs.cnt] at hel
  have y3 : w.cell? ⟨gt, 3, none⟩ = some (.pointer (some ⟨gb, 0, none⟩)) := h.blk.cell 3
  have hpe : ∀ k, k < L.starts.length → ∃ r, (entsP L.h.base rs)[k]? = some (L.h.base + L.starts[k]?.getD 0, r) := fun k q => place_ents hk.recs q
  have hP : placeP L lsn = if lsn < 1000 ∧ lsn % 16 < L.starts.length then L.h.base + L.starts[lsn % 16]?.getD 0 else lsn := rfl
  have hcn := hk.ok.cnt
  generalize entsP L.h.base rs = es at *
  obtain ⟨n, hn⟩ : ∃ n, L.starts.length = n := ⟨_, rfl⟩
  rw [hn] at hel hpe hP hcn
  obtain ⟨k, hk'⟩ : ∃ k, lsn % 16 = k := ⟨_, rfl⟩
  rw [hk'] at hP
  have V1 : Hid ((lsn : Int).tmod 16 = (k : Int)) := Lib.hid (by rw [Int.tmod_eq_emod_of_nonneg (by omega)]; omega)
  have V2 : Hid ((lsn : Int) % 16 = (k : Int)) := Lib.hid (by omega)
  have V3 : Hid (IntKind.i64.wrap (k : Int) = (k : Int)) := Lib.hid (by rw [IntKind.wrap_i64]; omega)
  have V4 : Hid (wrap64 (k : Int) = (k : Int) ∧ IntKind.u64.wrap (k : Int) = (k : Int)) := Lib.hid ⟨by unfold wrap64; omega, by rw [IntKind.wrap_u64]; omega⟩
  have HP := Lib.hid hP
  have HEL := Lib.hid hel
  have HPE := Lib.hid hpe
  clear h hk hs62 hn hP hk' hel hpe
  go_enter Tryz.func54, Tryz.ntmps54
  go_wp2_with fail
  refine ce.mono ?_
  rintro e w1 ⟨hb1, A1, c1, rfl, hat⟩
  rw [HEL.out]
  have v1 := V1.out
  have v2 := V2.out
  have v3 := V3.out
  obtain ⟨v4, v5⟩ := V4.out
  clear ce y3
  by_cases h1 : lsn < 1000
  rotate_left
  · have t1 : decide ((lsn : Int) < 1000) = false := by rw [decide_eq_false_iff_not]; omega
    have HF : Hid (placeP L lsn = lsn) := Lib.hid (by rw [HP.out, if_neg (fun q => h1 q.1)])
    clear hat
    go_wp2
    go_ret
    exact ⟨by rw [HF.out]; rfl, hb1⟩
  have t1 : decide ((lsn : Int) < 1000) = true := by rw [decide_eq_true_iff]; omega
  by_cases h2 : k < n
  rotate_left
  · have t2 : decide ((k : Int) < (n : Int)) = false := by rw [decide_eq_false_iff_not]; omega
    have HF : Hid (placeP L lsn = lsn) := Lib.hid (by rw [HP.out, if_neg (fun q => h2 q.2)])
    clear hat
    go_wp2
    go_ret
    exact ⟨by rw [HF.out]; rfl, hb1⟩
  have t2 : decide ((k : Int) < (n : Int)) = true := by rw [decide_eq_true_iff]; omega
  have e2 : (0 : Int) ≤ (k : Int) := by omega
  have e3 : (k : Int) < (n : Int) := by omega
  obtain ⟨b, o, m, rfl, hbB, hc, -⟩ := hat k (by rw [HEL.out]; exact h2)
  obtain ⟨r, hr⟩ := HPE.out k h2
  have hq : es[k]'(by rw [HEL.out]; exact h2) = (L.h.base + L.starts[k]?.getD 0, r) := by
    rw [List.getElem?_eq_getElem (by rw [HEL.out]; exact h2)] at hr
    exact Option.some.inj hr
  have hc0 := hc 0 (.int .u64 ((L.h.base + L.starts[k]?.getD 0 : Nat) : Int)) (by rw [hq]; rfl)
  have HF : Hid (placeP L lsn = L.h.base + L.starts[k]?.getD 0) := Lib.hid (by rw [HP.out, if_pos ⟨h1, h2⟩])
  generalize L.h.base + L.starts[k]?.getD 0 = q at *
  rw [Nat.add_zero] at hc0
  clear hc hr hq hat
  go_wp2
  go_ret
  exact ⟨by rw [HF.out]; rfl, hb1⟩
end Go.Proofs.YtkganajbilnanaaGreat
