/- wal's law: step. Conditions: the game lies there; so does the call. (Printed by gen_step.py.) -/
import Derived.Test.YtkganajbilnanaaWWalPl
import Derived.Deep.CutBlock
namespace Go.Proofs.Ytkganajbilnanaa
open Go.ChangeShapes Go.WideShapes Go.ChangeAt Go.RowKit
open NumMath
set_option linter.unusedVariables false
set_option linter.unusedSimpArgs false
set_option maxRecDepth 20000

theorem size_state : (Try.prog.info? 44).map (·.size) = some 3 := by kernel_rfl
theorem entry_info : (Try.prog.info? 63).map (fun i => (i.zero, i.size, i.bytes)) = some (some (.agg #[.int .u64 0, .int .u8 0, .int .u32 0, .int .u64 0, .int .u64 0, .int .u32 0, .int .u16 0, .bool false, .bool false, .slice none 0 0, .slice none 0 0, .slice none 0 0, .slice none 0 0]), 13, 136) := by kernel_rfl
/-- append(nil, entries...) -/
theorem wpList_copy_ents {w : World} {B : Nat} {v : Value} {es : List (Nat × RecP)} (h : EntsOwn w B v es) {ops : Array Oper} {rest : List Oper} {o : Oper} {a : Act} {Q : Exit → Act → World → Prop} (hgd : o.guard = none) (s x : Operand)
    (ho : o.op = .call { callee := .builtin .append, args := #[s, x], argTypes := #[42, 42] }) (hs : a.eval s = .slice none 0 0) (hx : a.eval x = v) (hn : es.length ≤ 100000)
    (hK : ∀ A' c' ms w', ms.length = es.length → w'.ownsRow w.heap.size 63 13 (.slice A' es.length c') es.length (entsA es ms) → (∀ (i : Nat) (e : Nat × RecP) (m : RecMm), es[i]? = some e → ms[i]? = some m → RecAt w B e.2 m) → Below w.heap.size w w' → wpList Try.prog ops Q rest (a.put o.dst (.slice A' es.length c')) w') : wpList Try.prog ops Q (o :: rest) a w := by
  obtain ⟨i0, hi0, hz0, hz1, hz2⟩ := info_parts entry_info
  obtain ⟨h0, ms, h1, h2, h3⟩ := h
  cases es with
  | nil =>
    have hv := h0 rfl
    subst hv
    refine wpList_plain hgd fun K hK' => ?_
    have hrun : (Builtin.append_ #[42, 42] o.type #[.slice none 0 0, .slice none 0 0]).run Try.prog w = .ok (.slice none 0 0) w := by
      have ht := Try.underlying42
      simp [Builtin.append_, run_underlying ht, sizeOf, typeInfo, hi0, Builtin.lenOf, Builtin.firstCells]
    unfold Oper.wp execOp
    simp only [ho, resolve, invoke, builtin, Sem.run_bind, Sem.run_pure, Result.andThen_ok, List.map_toArray, List.map_cons, List.map_nil, hs, hx, hrun]
    exact hK' _ _ (hK none 0 [] w rfl (World.ownsRow_nil _ _ _ _) (fun i e m q => by cases q) (Below.refl _ _))
  | cons e es =>
    obtain ⟨A, c, rfl, hc, -⟩ := own_form h2
    obtain ⟨g, rfl, hg1, hg2⟩ := own_pos h2 (by simp)
    refine wpList_append_cells hgd s x 42 ho w.heap.size 63 i0 _ 13 136 Try.underlying42 hi0 hz0 hz1 hz2 rfl (by omega) (.slice none 0 0) 0 [] hs (World.ownsRow_nil _ _ _ _) ⟨g, 0, none⟩ (e :: es).length c (entsA (e :: es) ms) hx (by rw [entsA_length _ _ h1]; omega) (fun j u hu => by
      rw [addr_add, Nat.zero_add, h2.cellAt j (by have := (List.getElem?_eq_some_iff.1 hu).1; rw [entsA_length _ _ h1] at this; omega)]
      exact hu) (fun u hu => by
      obtain ⟨j, hj, rfl⟩ := List.mem_iff_getElem.1 hu
      exact entsA_one _ _ h1 _ (List.getElem_mem hj)) (by unfold maxLen; omega) (by omega) (Nat.le_refl _) ?_
    intro A' c' w' q1 q2 q3
    rw [Nat.zero_add] at q1 ⊢
    exact hK A' c' ms w' h1 (by rw [List.nil_append] at q1; exact q1) h3 ((Below.refl _ _).grown q2 (Nat.le_refl _) fun k e => by cases e)
/-- append(s, a new entry) -/
theorem wpList_snoc_ents {w : World} {B n c : Nat} {A : Option Addr} {xs : List Value} (hown : w.ownsRow B 63 13 (.slice A n c) n xs) (news : List Value) (hl : news.length = 13) (h1 : ∀ u ∈ news, u.oneCell' = true) (hn : n ≤ 100000) (hB : B ≤ w.heap.size)
    (t : TypeId) (f : Nat × Nat) {ops : Array Oper} {rest : List Oper} {o : Oper} {a : Act} {Q : Exit → Act → World → Prop} (hgd : o.guard = none) (s x : Operand)
    (ho : o.op = .call { callee := .builtin .append, args := #[s, x], argTypes := #[42, 42] }) (hs : a.eval s = .slice A n c) (hx : a.eval x = .slice (some ⟨w.heap.size, 0, none⟩) 1 1)
    (hK : ∀ A' c' w', w'.ownsRow B 63 13 (.slice A' (n + 1) c') (n + 1) (xs ++ news) → Below B w w' → wpList Try.prog ops Q rest (a.put o.dst (.slice A' (n + 1) c')) w') : wpList Try.prog ops Q (o :: rest) a (w.alloc (.cells news.toArray t f)) := by
  obtain ⟨i0, hi0, hz0, hz1, hz2⟩ := info_parts entry_info
  have hb := (Below.refl w.heap.size w).alloc (Nat.le_refl _) (.cells news.toArray t f)
  have how : (w.alloc (.cells news.toArray t f)).ownsRow B 63 13 (.slice A n c) n xs := kept_none (below_none hb) hown
  refine wpList_append_cells hgd s x 42 ho B 63 i0 _ 13 136 Try.underlying42 hi0 hz0 hz1 hz2 rfl (by omega) (.slice A n c) n xs hs how ⟨w.heap.size, 0, none⟩ 1 1 news hx (by omega) (new_row_cells w _ _ _) h1 (by unfold maxLen; omega) (by omega) (by rw [World.size_alloc]; omega) ?_
  intro A' c' w' q1 q2 q3
  exact hK A' c' w' q1 ((hb.mono hB).grown q2 (by rw [World.size_alloc]; omega) fun k e => (how.lt k e).1)
/-- what step leaves -/
def StepPost (B : Nat) (x : WOp) (L : LogP) (D : DevP) (rs : List RecP) (H : Nat → Prop) (gpl ib il : Nat) (pd pl : Value) (w : World) (e : Ending) (w' : World) : Prop :=
  e = .returned (.tuple #[]) ∧ Below B w w' ∧ ∃ H' wv iv, PlayAt B (stepP L D rs x).1 (stepP L D rs x).2.1 w' H' gpl ib il (entsP L.h.base rs) (stepP L D rs x).1.h.base ((stepP L D rs x).1.h.base + (stepP L D rs x).1.lasts) (entsP (stepP L D rs x).1.h.base (stepP L D rs x).2.2) pd pl wv iv
/-- behind the switch: all but base and lasts -/
def MidAt (B : Nat) (x : WOp) (L : LogP) (D : DevP) (rs : List RecP) (gpl ib il : Nat) (pd pl : Value) (w w' : World) : Prop :=
  Below B w w' ∧ ∃ H' wv iv, PlayAt B (stepP L D rs x).1 (stepP L D rs x).2.1 w' H' gpl ib il (entsP L.h.base rs) ib il (entsP (stepP L D rs x).1.h.base (stepP L D rs x).2.2) pd pl wv iv
section
variable {B : Nat} {L : LogP} {D : DevP} {rs : List RecP} {w : World} {H : Nat → Prop} {gpl wb wl ib il : Nat} {wes : List (Nat × RecP)} {pd pl wv iv : Value}
set_option maxHeartbeats 8000000 in
theorem step_any (h : PlayAt B L D w H gpl wb wl wes ib il (entsP L.h.base rs) pd pl wv iv) (hfit : L.fit rs) {N : Nat} (hG : D.good N) (hN : N + 6000 ≤ 100000) (x : WOp) (m : RecMm) (Af : Option Addr) (cf : Nat) (hx : WOpV w B x m Af cf)
    (hfit' : (stepP L D rs x).1.fit (stepP L D rs x).2.2) :
    Calls Try.prog 29 #[.pointer (some ⟨gpl, 0, none⟩), .agg (wopA x m Af cf).toArray] w (StepPost B x L D rs H gpl ib il pd pl w) := by
  have kob := Blk.new w 36 (wopA x m Af cf).toArray
  have hb1 := below_alloc w (.cells (wopA x m Af cf).toArray 36)
  have hp1 := h.below hb1
  have hx1 := hx.below (hb1.mono h.size)
  have hiH := h.hi
  have HB0 := Lib.hid h.size
  have hgpl : gpl < w.heap.size := h.blk.lt
  clear h hx
  go_enter Try.func29, Try.ntmps29
  go_upto_region 1 with fail
  generalize World.alloc w _ = w1 at *
  obtain ⟨go, hgo⟩ : ∃ go, w.heap.size = go := ⟨_, rfl⟩
  rw [hgo] at kob hgpl hiH
  rw [hgo]
  have ngo : ¬ H go := fun q => by have := hiH go q; omega
  have hgoB : B ≤ go := by rw [← hgo]; exact HB0.out
  have HB1 : Hid (Below B w w1) := Lib.hid (hb1.mono HB0.out)
  have kp := hp1.blk
  have ldS : (Instr.loadAt 44 (.pointer (some ⟨gpl, 5, none⟩))).run Try.prog w1 = .ok (.agg #[.int .u64 (ib : Nat), .int .u64 (il : Nat), iv]) w1 :=
    run_load_blk kp 5 44 [.int .u64 (ib : Nat), .int .u64 (il : Nat), iv] _ (fun j v hj => by
      have : j < 3 := (List.getElem?_eq_some_iff.1 hj).1
      rcases (show j = 0 ∨ j = 1 ∨ j = 2 by omega) with rfl | rfl | rfl <;> exact hj) Try.underlying44 rfl size_state
  have stS : (Instr.storeAt 44 (.pointer (some ⟨gpl, 2, none⟩)) (.agg #[.int .u64 (ib : Nat), .int .u64 (il : Nat), iv])).run Try.prog w1 = .ok () (w1.setCells gpl 2 [.int .u64 (ib : Nat), .int .u64 (il : Nat), iv]) :=
    run_storeAt_mid w1 gpl 2 44 #[.int .u64 (ib : Nat), .int .u64 (il : Nat), iv] (fun j hj => ⟨by
      have : j < 3 := hj
      rw [kp.cell]
      rcases (show j = 0 ∨ j = 1 ∨ j = 2 by omega) with rfl | rfl | rfl <;> rfl, kp.frozen _⟩) size_state (by
      obtain ⟨-, ms, -, q, -⟩ := hp1.is
      obtain ⟨A, c, e, -⟩ := own_form q
      rw [e]
      simp [Value.oneCell'])
  have o2 := setCells_only w1 gpl [.int .u64 (ib : Nat), .int .u64 (il : Nat), iv] 2
  have k2 : Blk (w1.setCells gpl 2 [.int .u64 (ib : Nat), .int .u64 (il : Nat), iv]) gpl 46 #[pd, pl, .int .u64 (ib : Nat), .int .u64 (il : Nat), iv, .int .u64 (ib : Nat), .int .u64 (il : Nat), iv] := ((kp.set_ 2 _).set_ 3 _).set_ 4 _
  have hp2 := hp1.box o2 k2 hp1.is hp1.is hp1.nI hp1.nI
  have ko2 := kob.only o2 (show ¬ go = gpl by omega)
  have hx2 := hx1.below (o2.below hp1.size fun b e => by rw [e]; exact hp1.gB)
  have HB2 : Hid (Below B w (w1.setCells gpl 2 [.int .u64 (ib : Nat), .int .u64 (il : Nat), iv])) := Lib.hid (HB1.out.trans (o2.below hp1.size fun b e => by rw [e]; exact hp1.gB))
  clear hb1 hp1 hx1 o2 k2 kp kob hiH hgo HB0 HB1
  go_upto_region 2 with (first
    | (refine wpList_load_run rfl 44 (.tmp 10) _ _ rfl rfl ldS ?_; clear ldS)
    | (refine wpList_store_run rfl 44 (.tmp 13) (.tmp 11) _ _ rfl rfl rfl stS ?_; clear stS)
    | fail)
  generalize World.setCells w1 gpl 2 _ = w2 at *
  have ck : w2.cell? ⟨go, 0, none⟩ = some (.int .u8 (x.kind : Nat)) := ko2.cell 0
  have KO : Hid (∀ W, Only H w2 W → Blk W go 36 (wopA x m Af cf).toArray) := Lib.hid fun W ho => ko2.only ho ngo
  have HP2 := Lib.hid hp2
  have HX2 := Lib.hid hx2
  clear hp2 hx2 ko2
  obtain ⟨mk, hmk⟩ : ∃ mk, x.kind % 11 = mk := ⟨_, rfl⟩
  have r1 : (x.kind : Int) % 11 = (mk : Int) := by omega
  have r2 : Int.tmod (x.kind : Int) 11 = (mk : Int) := by rw [Int.tmod_eq_emod_of_nonneg (by omega)]; exact r1
  have hmk11 : mk < 11 := by omega
  go_upto_block 0 with fail
  go_cut [] (fun wx => MidAt B x L D rs gpl ib il pd pl w wx)
  case first =>
    have bd := below_drew0 w2
    obtain ⟨F, G, gl, sv, st, rfl, hLg, hH⟩ := HP2.out.log
    have HLG := Lib.hid hLg
    have HHH := Lib.hid hH
    have CELLS : Hid (∀ W, Only H w2 W → W.cell? ⟨gpl, 1, none⟩ = some (.pointer (some ⟨gl, 0, none⟩)) ∧ W.cell? ⟨go, 14, none⟩ = some (.int .u64 (x.at_ : Nat))) := Lib.hid fun W ho => ⟨(HP2.out.blk.only ho HP2.out.nH).cell 1, (KO.out W ho).cell 14⟩
    have x0 := CELLS.out w2.drew (Only.of_below bd _)
    have c1 : w2.cell? ⟨gpl, 1, none⟩ = some (.pointer (some ⟨gl, 0, none⟩)) := HP2.out.blk.cell 1
    have MIDL : Hid (∀ W L' D', LgPost L' D' F G gl pd w2.drew W → stepP L D rs x = (L', D', rs) → L'.h.base = L.h.base → MidAt B x L D rs gpl ib il pd (.pointer (some ⟨gl, 0, none⟩)) w W) := Lib.hid fun W L' D' hp e1 e2 => by
      have hq := hp.is hH
      have hpost := (HP2.out.below bd).post hq
      refine ⟨HB2.out.trans ((bd.mono HP2.out.size).trans (hq.2.below HP2.out.size HP2.out.lo)), grow H w2.drew W, iv, iv, ?_⟩
      rw [e1]
      show PlayAt B L' D' W (grow H w2.drew W) gpl ib il (entsP L.h.base rs) ib il (entsP L'.h.base rs) pd _ iv iv
      rw [e2]
      exact hpost
    clear hLg hH
    rcases (show mk = 4 ∨ mk = 6 ∨ mk = 7 ∨ (mk = 5 ∨ mk = 8 ∨ mk = 9 ∨ mk = 10) ∨ (mk = 0 ∨ mk = 1 ∨ mk = 2 ∨ mk = 3) by omega) with z | z | z | z | z
    · subst z
      have hst : stepP L D rs x = (flushL L x.at_, flushD L D x.at_, rs) := by unfold stepP; rw [if_pos hmk]
      have cfl := flush_any HLG.out.drew hfit.ok hG (by omega) x.at_ HX2.out.at_
      have FIN : Hid (∀ W, LgPost (flushL L x.at_) (flushD L D x.at_) F G gl pd w2.drew W → MidAt B x L D rs gpl ib il pd (.pointer (some ⟨gl, 0, none⟩)) w W ∧ Only H w2 W) := Lib.hid fun W hp => ⟨MIDL.out W _ _ hp hst (by rw [flushL_h]), (Only.of_below bd H).trans (hp.is HHH.out).2 fun b q => .inl q⟩
      obtain ⟨xa, hxa⟩ : ∃ xa, x.at_ = xa := ⟨_, rfl⟩
      rw [hxa] at cfl x0 CELLS FIN
      clear hst hxa MIDL hfit hfit' hmk
      go_wp2_with fail
      go_region_held3 (fun W => W.cell? ⟨gpl, 1, none⟩ = some (.pointer (some ⟨gl, 0, none⟩)) ∧ W.cell? ⟨go, 14, none⟩ = some (.int .u64 (xa : Nat)))
        (first | with_reducible (exact x0) | with_reducible (exact x2) | fail)
        (first
          | ((with_reducible refine cfl.mono ?_); rintro e w3 ⟨rfl, hp3⟩; have H3 := Lib.hid (FIN.out w3 hp3); have x2 := CELLS.out w3 H3.out.2)
          | fail)
      all_goals
        clear FIN cfl x0 x2 CELLS hp3
        go_wp2
        go_meet
        case rel => exact H3.out.1
    · subst z
      have hst : stepP L D rs x = (markL L x.at_, markD L D x.at_, rs) := by unfold stepP; rw [if_neg (by omega), if_pos hmk]
      have cfl := mark_any HLG.out.drew hfit.ok hG (by omega) x.at_ HX2.out.at_
      have FIN : Hid (∀ W, LgPost (markL L x.at_) (markD L D x.at_) F G gl pd w2.drew W → MidAt B x L D rs gpl ib il pd (.pointer (some ⟨gl, 0, none⟩)) w W ∧ Only H w2 W) := Lib.hid fun W hp => ⟨MIDL.out W _ _ hp hst (by show (flushL L topN).h.base = _; rw [flushL_h]), (Only.of_below bd H).trans (hp.is HHH.out).2 fun b q => .inl q⟩
      obtain ⟨xa, hxa⟩ : ∃ xa, x.at_ = xa := ⟨_, rfl⟩
      rw [hxa] at cfl x0 CELLS FIN
      clear hst hxa MIDL hfit hfit' hmk
      go_wp2_with fail
      go_region_held3 (fun W => W.cell? ⟨gpl, 1, none⟩ = some (.pointer (some ⟨gl, 0, none⟩)) ∧ W.cell? ⟨go, 14, none⟩ = some (.int .u64 (xa : Nat)))
        (first | with_reducible (exact x0) | with_reducible (exact x2) | fail)
        (first
          | ((with_reducible refine cfl.mono ?_); rintro e w3 ⟨rfl, hp3⟩; have H3 := Lib.hid (FIN.out w3 hp3); have x2 := CELLS.out w3 H3.out.2)
          | fail)
      all_goals
        clear FIN cfl x0 x2 CELLS hp3
        go_wp2
        go_meet
        case rel => exact H3.out.1
    · subst z
      have hst : stepP L D rs x = (renewL L, renewD L D, []) := by unfold stepP; rw [if_neg (by omega), if_neg (by omega), if_pos hmk]
      have cre := renew_any HLG.out hfit.ok hG (by omega)
      have FIN : Hid (∀ W, LgPost (renewL L) (renewD L D) F G gl pd w2 W → W.cell? ⟨gpl, 7, none⟩ = some iv ∧ W.frozen? ⟨gpl, 7, none⟩ = false ∧ MidAt B x L D rs gpl ib il pd (.pointer (some ⟨gl, 0, none⟩)) w (W.setCell ⟨gpl, 7, none⟩ (.slice none 0 0))) := Lib.hid fun W hp => by
        have hq := hp.is HHH.out
        have hpost := HP2.out.post hq
        have kW := hpost.blk
        have oW : Only (fun b => b = gpl) W (W.setCell ⟨gpl, 7, none⟩ (.slice none 0 0)) := (Only.refl (fun b => b = gpl) W).setCell (p := ⟨gpl, 7, none⟩) (.inl rfl) _
        have hbx := hpost.box (wb' := ib) (wl' := il) (ib' := ib) (il' := il) (iv' := .slice none 0 0) (ies' := []) oW (kW.set_ 7 _) hpost.was (EntsOwn.nil _ _) hpost.nW (fun b e => by cases e)
        refine ⟨kW.cell 7, kW.frozen 7, (HB2.out.trans (hq.2.below HP2.out.size HP2.out.lo)).trans (oW.below hpost.size fun b e => by rw [e]; exact hpost.gB), grow H w2 W, iv, .slice none 0 0, ?_⟩
        rw [hst]
        exact hbx
      clear hst MIDL hfit hfit' hmk x0 CELLS
      go_wp2_with fail
      refine cre.mono ?_
      rintro e w3 ⟨rfl, hp3⟩
      obtain ⟨s7, z7, hm7⟩ := FIN.out w3 hp3
      have c1 : w3.cell? ⟨gpl, 1, none⟩ = some (.pointer (some ⟨gl, 0, none⟩)) := (HP2.out.post (hp3.is HHH.out)).blk.cell 1
      have H3 := Lib.hid hm7
      clear FIN cre hm7 hp3
      go_wp2
      go_meet
      case rel => exact H3.out
    · have hst : stepP L D rs x = (L, D, rs) := by unfold stepP; rw [if_neg (by omega), if_neg (by omega), if_neg (by omega), if_neg (by omega)]
      have H3 : Hid (MidAt B x L D rs gpl ib il pd (.pointer (some ⟨gl, 0, none⟩)) w w2) := Lib.hid ⟨HB2.out, H, iv, iv, by rw [hst]; exact HP2.out⟩
      clear hst MIDL hfit hfit' hmk x0 CELLS
      rcases z with rfl | rfl | rfl | rfl
      all_goals
        go_wp2
        go_meet
        case rel => exact H3.out
    · have hst : stepP L D rs x = ((appP L x.r (x.spare % 100)).2, D, if (appP L x.r (x.spare % 100)).1.2 = 0 then rs ++ [x.r] else rs) := by unfold stepP; rw [if_neg (by omega), if_neg (by omega), if_neg (by omega), if_pos (by omega)]
      have hb := hfit.base
      have cap : Calls Try.prog 13 #[.pointer (some ⟨gl, 0, none⟩), .agg #[.int .u8 (x.r.kind : Nat), .int .u32 (x.r.txn : Nat), .int .u64 (x.r.prev : Nat), .int .u64 (x.r.next : Nat), .int .u32 (x.r.chg.page : Nat), .int .u16 (x.r.chg.slot : Nat), .bool x.r.chg.had, .bool x.r.chg.has, .slice m.cm.A1 x.r.chg.before.length m.cm.c1, .slice m.cm.A2 x.r.chg.after.length m.cm.c2, .slice m.A3 x.r.txns.length m.c3, .slice m.A4 x.r.pages.length m.c4], .int .u64 ((x.spare % 100 : Nat) : Int)] w2.drew fun e w' => e = .returned (.tuple #[.int .u64 ((appP L x.r (x.spare % 100)).1.1 : Nat), .int .u16 ((appP L x.r (x.spare % 100)).1.2 : Nat)]) ∧ LgPost (appP L x.r (x.spare % 100)).2 D F G gl pd w2.drew w' :=
        append_any HLG.out.drew x.r m B (HX2.out.rc.below (bd.mono HP2.out.size)) (Nat.le_trans HP2.out.size bd.size) (Nat.le_trans hfit.strips (by decide)) hfit.len hb hfit.ok.cnt (x.spare % 100) (by omega)
      obtain ⟨sp, hsp⟩ : ∃ sp, x.spare % 100 = sp := ⟨_, rfl⟩
      rw [hsp] at cap hst
      have r3 : (x.spare : Int) % 100 = (sp : Int) := by omega
      have r4 : Int.tmod (x.spare : Int) 100 = (sp : Int) := by rw [Int.tmod_eq_emod_of_nonneg (by omega)]; exact r3
      have happ : (appP L x.r sp).2.h = L.h ∧ ((appP L x.r sp).1.2 = 0 → (appP L x.r sp).1.1 = L.h.base + L.stream.length) := by
        unfold appP
        split
        · exact ⟨rfl, fun q => by cases q⟩
        · split
          · exact ⟨rfl, fun q => by cases q⟩
          · exact ⟨rfl, fun _ => rfl⟩
      obtain ⟨hh1, hh2⟩ := happ
      obtain ⟨lsn, hlsn⟩ : ∃ q, (appP L x.r sp).1.1 = q := ⟨_, rfl⟩
      obtain ⟨code, hcode⟩ : ∃ q, (appP L x.r sp).1.2 = q := ⟨_, rfl⟩
      rw [hlsn, hcode] at cap hh2
      rw [hcode] at hst
      have RECS := Lib.hid hfit.recs
      have HN2 : Hid (rs.length ≤ 100000) := Lib.hid (by have h1 := hfit.ok.cnt; have h2 := hfit.recs.cnt; omega)
      have HST := Lib.hid hst
      have HH1 := Lib.hid hh1
      have HH2 := Lib.hid hh2
      generalize (appP L x.r sp).2 = L' at *
      have CEL2 : Hid (∀ W, Only H w2 W → W.cell? ⟨gpl, 1, none⟩ = some (.pointer (some ⟨gl, 0, none⟩)) ∧ W.cell? ⟨go, 1, none⟩ = some (.int .u8 (x.r.kind : Nat)) ∧ W.cell? ⟨go, 2, none⟩ = some (.int .u32 (x.r.txn : Nat)) ∧ W.cell? ⟨go, 3, none⟩ = some (.int .u64 (x.r.prev : Nat)) ∧ W.cell? ⟨go, 4, none⟩ = some (.int .u64 (x.r.next : Nat)) ∧ W.cell? ⟨go, 5, none⟩ = some (.int .u32 (x.r.chg.page : Nat)) ∧ W.cell? ⟨go, 6, none⟩ = some (.int .u16 (x.r.chg.slot : Nat)) ∧ W.cell? ⟨go, 7, none⟩ = some (.bool x.r.chg.had) ∧ W.cell? ⟨go, 8, none⟩ = some (.bool x.r.chg.has) ∧ W.cell? ⟨go, 9, none⟩ = some (.slice m.cm.A1 x.r.chg.before.length m.cm.c1) ∧ W.cell? ⟨go, 10, none⟩ = some (.slice m.cm.A2 x.r.chg.after.length m.cm.c2) ∧ W.cell? ⟨go, 11, none⟩ = some (.slice m.A3 x.r.txns.length m.c3) ∧ W.cell? ⟨go, 12, none⟩ = some (.slice m.A4 x.r.pages.length m.c4) ∧ W.cell? ⟨go, 13, none⟩ = some (.int .u64 (x.spare : Nat))) := Lib.hid fun W ho => by
        have k := KO.out W ho
        exact ⟨(HP2.out.blk.only ho HP2.out.nH).cell 1, k.cell 1, k.cell 2, k.cell 3, k.cell 4, k.cell 5, k.cell 6, k.cell 7, k.cell 8, k.cell 9, k.cell 10, k.cell 11, k.cell 12, k.cell 13⟩
      have y0 := CEL2.out w2.drew (Only.of_below bd _)
      have PST : Hid (∀ W, LgPost L' D F G gl pd w2.drew W → Only H w2 W ∧ Below B w W ∧ PlayAt B L' D W (grow H w2.drew W) gpl ib il (entsP L.h.base rs) ib il (entsP L.h.base rs) pd (.pointer (some ⟨gl, 0, none⟩)) iv iv) := Lib.hid fun W hp => by
        have hq := hp.is HHH.out
        exact ⟨(Only.of_below bd H).trans hq.2 fun b q => .inl q, HB2.out.trans ((bd.mono HP2.out.size).trans (hq.2.below HP2.out.size HP2.out.lo)), (HP2.out.below bd).post hq⟩
      clear hst hsp hh1 hh2 hlsn hcode hfit hfit' x0 CELLS MIDL hb
      rcases z with rfl | rfl | rfl | rfl
      all_goals
        clear hmk
        go_upto_region 14 with fail
        go_cut [4, 5] (fun v4 v5 wx => v4 = .int .u64 (lsn : Nat) ∧ v5 = .int .u16 (code : Nat) ∧ LgPost L' D F G gl pd w2.drew wx)
        case first =>
          go_wp2_with fail
          go_region_held3 (fun W => W.cell? ⟨gpl, 1, none⟩ = some (.pointer (some ⟨gl, 0, none⟩)) ∧ W.cell? ⟨go, 1, none⟩ = some (.int .u8 (x.r.kind : Nat)) ∧ W.cell? ⟨go, 2, none⟩ = some (.int .u32 (x.r.txn : Nat)) ∧ W.cell? ⟨go, 3, none⟩ = some (.int .u64 (x.r.prev : Nat)) ∧ W.cell? ⟨go, 4, none⟩ = some (.int .u64 (x.r.next : Nat)) ∧ W.cell? ⟨go, 5, none⟩ = some (.int .u32 (x.r.chg.page : Nat)) ∧ W.cell? ⟨go, 6, none⟩ = some (.int .u16 (x.r.chg.slot : Nat)) ∧ W.cell? ⟨go, 7, none⟩ = some (.bool x.r.chg.had) ∧ W.cell? ⟨go, 8, none⟩ = some (.bool x.r.chg.has) ∧ W.cell? ⟨go, 9, none⟩ = some (.slice m.cm.A1 x.r.chg.before.length m.cm.c1) ∧ W.cell? ⟨go, 10, none⟩ = some (.slice m.cm.A2 x.r.chg.after.length m.cm.c2) ∧ W.cell? ⟨go, 11, none⟩ = some (.slice m.A3 x.r.txns.length m.c3) ∧ W.cell? ⟨go, 12, none⟩ = some (.slice m.A4 x.r.pages.length m.c4) ∧ W.cell? ⟨go, 13, none⟩ = some (.int .u64 (x.spare : Nat)))
            (first | with_reducible (exact y0) | with_reducible (exact y2) | fail)
            (first
              | ((with_reducible refine cap.mono ?_); rintro e w3 ⟨rfl, hp3⟩; have y2 := CEL2.out w3 (PST.out w3 hp3).1; have H3 := Lib.hid hp3)
              | fail)
          all_goals
            go_wp2
            go_meet
            case rel => exact ⟨rfl, rfl, H3.out⟩
        case rest =>
          rename World => w3
          obtain ⟨rfl, rfl, hp3⟩ := hcut
          obtain ⟨ho3, hb3, hpl3⟩ := PST.out w3 hp3
          have HNR := HN2
          clear cap y0 hp3 PST CEL2 HN2
          by_cases hc0 : code = 0
          · have e1 : ((code : Nat) : Int) = 0 := by rw [hc0]; rfl
            have e2 : (((code : Nat) : Int) == 0) = true := by rw [hc0]; rfl
            have hn : (entsP L.h.base rs).length ≤ 100000 := by rw [entsP_length]; exact HNR.out
            have c7 : w3.cell? ⟨gpl, 7, none⟩ = some iv := hpl3.blk.cell 7
            have HIS := Lib.hid hpl3.is
            have HP3 := Lib.hid hpl3
            have HO3 := Lib.hid ho3
            have HB3 := Lib.hid hb3
            have HC0 := Lib.hid hc0
            have HN := Lib.hid hn
            clear hpl3 ho3 hb3 hc0 hn HNR
            go_upto_region 18 with (first | (refine wpList_copy_ents HIS.out rfl (.tmp 66) (.tmp 71) rfl rfl rfl HN.out ?_; intro A7 n7 ms7 w4 hl7 ho7 hr7 hb7) | fail)
            generalize hnn : (entsP L.h.base rs).length = nn at *
            have hnL : nn ≤ 100000 := HN.out
            have hs4 := hb7.size
            have kp4 := HP3.out.blk.below hb7 HP3.out.blk.lt
            have ko4 := (KO.out w3 HO3.out).below hb7 (KO.out w3 HO3.out).lt
            have ldR : (Instr.loadAt 32 (.pointer (some ⟨go, 1, none⟩))).run Try.prog w4 = .ok (.agg #[.int .u8 (x.r.kind : Nat), .int .u32 (x.r.txn : Nat), .int .u64 (x.r.prev : Nat), .int .u64 (x.r.next : Nat), .int .u32 (x.r.chg.page : Nat), .int .u16 (x.r.chg.slot : Nat), .bool x.r.chg.had, .bool x.r.chg.has, .slice m.cm.A1 x.r.chg.before.length m.cm.c1, .slice m.cm.A2 x.r.chg.after.length m.cm.c2, .slice m.A3 x.r.txns.length m.c3, .slice m.A4 x.r.pages.length m.c4]) w4 :=
              run_load_blk ko4 1 32 (recA x.r m).toList _ (fun j v hj => by
                have : j < 12 := (List.getElem?_eq_some_iff.1 hj).1
                rcases (show j = 0 ∨ j = 1 ∨ j = 2 ∨ j = 3 ∨ j = 4 ∨ j = 5 ∨ j = 6 ∨ j = 7 ∨ j = 8 ∨ j = 9 ∨ j = 10 ∨ j = 11 by omega) with rfl | rfl | rfl | rfl | rfl | rfl | rfl | rfl | rfl | rfl | rfl | rfl <;> exact hj) Try.underlying32 rfl size_rec
            have h1e : ∀ u ∈ entA (lsn, x.r) m, u.oneCell' = true := fun u hu => entsA_one [(lsn, x.r)] [m] rfl u (by show u ∈ entA (lsn, x.r) m ++ []; rw [List.append_nil]; exact hu)
            have hB4 : w3.heap.size ≤ w4.heap.size := hs4
            have LEN : Hid (nn = rs.length) := Lib.hid (by rw [← hnn, entsP_length])
            have F5 : Hid (∀ w5, Below w3.heap.size w4 w5 → w5.cell? ⟨gpl, 7, none⟩ = some iv ∧ w5.frozen? ⟨gpl, 7, none⟩ = false) := Lib.hid fun w5 hb => by
              have k := kp4.below hb HP3.out.blk.lt
              exact ⟨k.cell 7, k.frozen 7⟩
            have FIN : Hid (∀ A8 c8 w5, w5.ownsRow w3.heap.size 63 13 (.slice A8 (nn + 1) c8) (nn + 1) (entsA (entsP L.h.base rs) ms7 ++ entA (lsn, x.r) m) → Below w3.heap.size w4 w5 → MidAt B x L D rs gpl ib il pd (.pointer (some ⟨gl, 0, none⟩)) w (w5.setCell ⟨gpl, 7, none⟩ (.slice A8 (nn + 1) c8))) := Lib.hid fun A8 c8 w5 q1 q2 => by
              have hb5 : Below w3.heap.size w3 w5 := hb7.trans q2
              have hp5 := HP3.out.below hb5
              have hbB : Below B w3 w5 := hb5.mono HP3.out.size
              have oW : Only (fun b => b = gpl) w5 (w5.setCell ⟨gpl, 7, none⟩ (.slice A8 (nn + 1) c8)) := (Only.refl (fun b => b = gpl) w5).setCell (p := ⟨gpl, 7, none⟩) (.inl rfl) _
              have hlen8 : (entsP L.h.base (rs ++ [x.r])).length = nn + 1 := by rw [entsP_length, List.length_append, LEN.out]; rfl
              have hes : EntsOwn w5 B (.slice A8 (nn + 1) c8) (entsP L.h.base (rs ++ [x.r])) := by
                refine ⟨fun q => (by rw [q] at hlen8; cases hlen8), ms7 ++ [m], ?_, ?_, ?_⟩
                · rw [hlen8, List.length_append, hl7]; rfl
                · have hsn := entsP_snoc rs x.r L.h.base
                  rw [hlen8, hsn, ← RECS.out.stream, ← HH2.out HC0.out, entsA_snoc _ _ _ _ (by rw [hl7, hnn])]
                  exact own_base HP3.out.size q1
                · intro i e mm q q'
                  rw [entsP_snoc] at q
                  rcases Nat.lt_or_ge i nn with hi | hi
                  · rw [List.getElem?_append_left (by rw [hnn]; exact hi)] at q
                    rw [List.getElem?_append_left (by rw [hl7]; exact hi)] at q'
                    exact (hr7 i e mm q q').below hbB
                  · rw [List.getElem?_append_right (by rw [hnn]; exact hi)] at q
                    rw [List.getElem?_append_right (by rw [hl7]; exact hi)] at q'
                    have hi1 := (List.getElem?_eq_some_iff.1 q).1
                    have hi0 : i - nn = 0 := by rw [hnn] at hi1; simpa using hi1
                    rw [hnn, hi0] at q
                    rw [hl7, hi0] at q'
                    injection q with q
                    injection q' with q'
                    rw [← q, ← q']
                    exact (HX2.out.rc.below (HO3.out.below HP2.out.size HP2.out.lo)).below hbB
              have hbx := hp5.box (wb' := ib) (wl' := il) (ib' := ib) (il' := il) (iv' := .slice A8 (nn + 1) c8) oW (hp5.blk.set_ 7 _) hp5.was hes hp5.nW (fun b e q => by
                have := (q1.lt b e).1
                have := HP3.out.hi b q
                omega)
              refine ⟨(HB3.out.trans hbB).trans (oW.below hp5.size fun b e => by rw [e]; exact hp5.gB), grow H w2.drew w3, iv, .slice A8 (nn + 1) c8, ?_⟩
              rw [HST.out, if_pos HC0.out]
              show PlayAt B L' D (w5.setCell ⟨gpl, 7, none⟩ (.slice A8 (nn + 1) c8)) (grow H w2.drew w3) gpl ib il (entsP L.h.base rs) ib il (entsP L'.h.base (rs ++ [x.r])) pd _ iv (.slice A8 (nn + 1) c8)
              rw [HH1.out]
              exact hbx
            clear kp4 ko4 hs4 hb7 hr7 c7 KO HIS HP3 HO3 HB3 HC0 RECS HST HH1 HH2 HP2 HX2 HB2 HLG HHH HN LEN
            generalize entsA (entsP L.h.base rs) ms7 = xs7 at *
            go_wp2_with (first
              | (refine wpList_load_run rfl 32 (.tmp 75) _ _ rfl rfl ldR ?_; clear ldR)
              | (refine wpList_snoc_ents ho7 (entA (lsn, x.r) m) rfl h1e hnL hB4 _ _ rfl (.tmp 73) (.tmp 78) rfl rfl rfl ?_; intro A8 c8 w5 q1 q2; have z5 := F5.out w5 q2; have c5 := z5.1; have f5 := z5.2; have H5 := Lib.hid (FIN.out A8 c8 w5 q1 q2); clear z5 F5 FIN q1 q2 h1e ho7 hB4)
              | fail)
            go_meet
            case rel => exact H5.out
          · have e2 : (((code : Nat) : Int) == 0) = false := by rw [beq_eq_false_iff_ne]; omega
            have H3 : Hid (MidAt B x L D rs gpl ib il pd (.pointer (some ⟨gl, 0, none⟩)) w w3) := Lib.hid (by
              refine ⟨hb3, grow H w2.drew w3, iv, iv, ?_⟩
              rw [HST.out, if_neg hc0]
              show PlayAt B L' D w3 (grow H w2.drew w3) gpl ib il (entsP L.h.base rs) ib il (entsP L'.h.base rs) pd _ iv iv
              rw [HH1.out]
              exact hpl3)
            have e3 : ¬ ((code : Nat) : Int) = 0 := by omega
            clear hc0 hpl3 ho3 hb3 KO RECS HST HH1 HH2 HP2 HX2 HB2 HLG HHH HNR
            go_wp2
            go_meet
            case rel => exact H3.out
  case rest =>
    rename World => wx
    obtain ⟨hbx, H1, wv1, iv1, hp⟩ := hcut
    have hb := hfit'.base
    have hl := hfit'.lasts
    have PEND : Hid (∀ w', Below B w w' → PlayAt B (stepP L D rs x).1 (stepP L D rs x).2.1 w' H1 gpl ib il (entsP L.h.base rs) (stepP L D rs x).1.h.base ((stepP L D rs x).1.h.base + (stepP L D rs x).1.lasts) (entsP (stepP L D rs x).1.h.base (stepP L D rs x).2.2) pd pl wv1 iv1 → StepPost B x L D rs H gpl ib il pd pl w (.returned (.tuple #[])) w') := Lib.hid fun w' q1 q2 => ⟨rfl, q1, H1, wv1, iv1, q2⟩
    generalize entsP (stepP L D rs x).1.h.base (stepP L D rs x).2.2 = es2 at *
    generalize (stepP L D rs x).2.1 = D2 at *
    generalize (stepP L D rs x).1 = L2 at *
    obtain ⟨F, G, gl, sv, st, rfl, hLg, hH⟩ := hp.log
    have cba := base_any hLg.log.blk
    obtain ⟨bs, hbs⟩ : ∃ bs, L2.h.base = bs := ⟨_, rfl⟩
    obtain ⟨bl, hbl⟩ : ∃ bl, bs + L2.lasts = bl := ⟨_, rfl⟩
    rw [hbs] at cba
    have c1 : wx.cell? ⟨gpl, 1, none⟩ = some (.pointer (some ⟨gl, 0, none⟩)) := hp.blk.cell 1
    have c5 : wx.cell? ⟨gpl, 5, none⟩ = some (.int .u64 (ib : Nat)) := hp.blk.cell 5
    have f5 := hp.blk.frozen 5
    have oW : Only (fun b => b = gpl) wx (wx.setCell ⟨gpl, 5, none⟩ (.int .u64 (bs : Nat))) := (Only.refl (fun b => b = gpl) wx).setCell (p := ⟨gpl, 5, none⟩) (.inl rfl) _
    have hp5 := hp.box (wb' := ib) (wl' := il) (ib' := bs) (il' := il) oW (hp.blk.set_ 5 _) hp.was hp.is hp.nW hp.nI
    have HB5 := Lib.hid (hbx.trans (oW.below hp.size fun b e => by rw [e]; exact hp.gB))
    have HL2 : Hid (L2.lasts ≤ L2.stream.length ∧ L2.h.base + L2.stream.length < 18446744073709551616) := Lib.hid ⟨hl, hb⟩
    have HBS := Lib.hid hbs
    have HBL := Lib.hid hbl
    have HH2 := Lib.hid hH
    have HP5 := Lib.hid hp5
    clear hp oW hbx hLg hH hb hl hbs hbl hfit hfit' hp5 KO HX2 HP2 HB2 hG ck
    go_wp2_with fail
    refine cba.mono ?_
    rintro e wy ⟨rfl, rfl⟩
    clear cba
    go_upto_region 21 with fail
    generalize World.setCell wx _ _ = w5 at *
    obtain ⟨F2, G2, gl2, sv2, st2, hpt, hLg5, -⟩ := HP5.out.log
    injection hpt with hpt
    injection hpt with hpt
    injection hpt with hpt
    subst hpt
    have cla := lasts_any hLg5.log.blk (by have := HL2.out; omega)
    rw [HBS.out, HBL.out] at cla
    have c1 : w5.cell? ⟨gpl, 1, none⟩ = some (.pointer (some ⟨gl, 0, none⟩)) := HP5.out.blk.cell 1
    have F6 : Hid (∀ w6, Drew w5 w6 → w6.cell? ⟨gpl, 6, none⟩ = some (.int .u64 (il : Nat)) ∧ w6.frozen? ⟨gpl, 6, none⟩ = false ∧ StepPost B x L D rs H gpl ib il pd (.pointer (some ⟨gl, 0, none⟩)) w (.returned (.tuple #[])) (w6.setCell ⟨gpl, 6, none⟩ (.int .u64 (bl : Nat)))) := Lib.hid fun w6 hd => by
      have hp6 := HP5.out.below (hd.below _)
      have oW : Only (fun b => b = gpl) w6 (w6.setCell ⟨gpl, 6, none⟩ (.int .u64 (bl : Nat))) := (Only.refl (fun b => b = gpl) w6).setCell (p := ⟨gpl, 6, none⟩) (.inl rfl) _
      have hp7 := hp6.box (wb' := ib) (wl' := il) (ib' := bs) (il' := bl) oW (hp6.blk.set_ 6 _) hp6.was hp6.is hp6.nW hp6.nI
      refine ⟨hp6.blk.cell 6, hp6.blk.frozen 6, PEND.out _ ((HB5.out.trans (hd.below _)).trans (oW.below hp6.size fun b e => by rw [e]; exact hp6.gB)) ?_⟩
      rw [HBS.out, HBL.out]
      exact hp7
    clear hLg5 HP5 HB5 PEND HBS HBL HL2 HH2 c5 f5
    go_wp2_with fail
    refine cla.mono ?_
    rintro e w6 ⟨rfl, hd⟩
    obtain ⟨c6, f6, hfin⟩ := F6.out w6 hd
    have H6 := Lib.hid hfin
    clear cla F6 hd hfin c1
    go_wp2
    go_end0
    exact H6.out
end
end Go.Proofs.Ytkganajbilnanaa
