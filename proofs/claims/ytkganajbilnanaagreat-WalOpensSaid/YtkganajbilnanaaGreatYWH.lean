/- wal: the header that a sector is. Conditions: the sector lies there. -/
import Derived.Test.YtkganajbilnanaaGreatYWA
import Derived.Test.YtkganajbilnanaaGreatYRecC
import Derived.StillTailTactics
set_option linter.unusedVariables false
set_option linter.unusedSimpArgs false
namespace Go.Proofs.YtkganajbilnanaaGreat
open Go.ChangeShapes Go.WideShapes Go.ChangeAt Go.RowKit
open NumMath
set_option maxRecDepth 20000
theorem step_store_run {P : Program} {w w' : World} {ops : Array Oper} {o : Oper} {a : Act} {K : Act → World → Prop} {Q : Exit → Act → World → Prop} {E : Prop} (hgd : o.guard = none) (t : TypeId) (x y : Operand) (X Y : Value) (ho : o.op = .store t x y) (hx : a.eval x = X) (hy : a.eval y = Y)
    (hr : (Instr.storeAt t X Y).run P w = .ok () w') (h : K (a.put o.dst undef) w') : if Region.wanted o (yielded ops a.tmps) = true then Oper.wp P o a w K Q else E := by
  have hw : Region.wanted o (yielded ops a.tmps) = true := by simp [Region.wanted, hgd]
  rw [if_pos hw]
  exact wp_store_run t x y X Y ho hx hy hr h
def headZ : HeadP := ⟨0, 0, 0, 0⟩
theorem size_head : (Tryz.prog.info? 79).map (·.size) = some 4 := by kernel_rfl
theorem store_head_new (w : World) (h : HeadP) : (Instr.storeAt 79 (.pointer (some ⟨w.heap.size, 0, none⟩)) (.agg (headV h))).run Tryz.prog (w.alloc (.cells #[.int .u64 0, .int .u64 0, .int .u64 0, .int .i64 0] 79)) = .ok () (w.alloc (.cells (headV h) 79)) :=
  run_storeAt_new w 79 _ (headV h) size_head rfl (by simp [headV, Value.oneCell'])
theorem store_head_all {w : World} {g : Nat} {cs : Array Value} (h : Blk w g 79 cs) (hs : cs.size = 4) (x : HeadP) : (Instr.storeAt 79 (.pointer (some ⟨g, 0, none⟩)) (.agg (headV x))).run Tryz.prog w = .ok () (w.setRow g (headV x)) := by
  simp only [Instr.storeAt, Instr.sureAddr, Sem.run_bind, Sem.run_pure, Result.andThen_ok]
  exact run_storeVar_row w g 79 79 cs (headV x) h size_head hs (by simp [headV, Value.oneCell'])
theorem load_head {w : World} {g : Nat} {h : HeadP} (k : Blk w g 79 (headV h)) : (Instr.loadAt 79 (.pointer (some ⟨g, 0, none⟩))).run Tryz.prog w = .ok (.agg (headV h)) w :=
  run_load_blk k 0 79 (headV h).toList _ (fun j v hv => by rw [Nat.zero_add]; simpa using hv) Tryz.underlying79 rfl size_head
theorem results_ct {fn : Func} {p q : Tmp} {ty : TypeId} (h : fn.results = #[.cell p ty, .tmp q]) (tmps : Array Value) (w : World) (g : Nat) (u : Value)
    (hp : tmps.getD p undef = .pointer (some ⟨g, 0, none⟩)) (hl : (loadVar ty ⟨g, 0, none⟩).run Tryz.prog w = .ok u w) :
    (results fn tmps).run Tryz.prog w = .ok (.tuple #[u, tmps.getD q undef]) w := by
  have hp' : tmps[p]?.getD undef = .pointer (some ⟨g, 0, none⟩) := by simpa using hp
  simp [results, h, hp', asAddr, hl]
theorem head_whole {w : World} {g : Nat} {h : HeadP} (k : Blk w g 79 (headV h)) : (loadVar 79 ⟨g, 0, none⟩).run Tryz.prog w = .ok (.agg (headV h)) w :=
  run_loadVar_row w g 79 79 (headV h) (0, 0) _ k Tryz.underlying79 rfl size_head
def setHead (w : World) (g st ba ck ar : Nat) : World := (((w.setCell ⟨g, 0, none⟩ (.int .u64 (st : Nat))).setCell ⟨g, 1, none⟩ (.int .u64 (ba : Nat))).setCell ⟨g, 2, none⟩ (.int .u64 (ck : Nat))).setCell ⟨g, 3, none⟩ (.int .i64 (ar : Nat))
theorem setHead_only (w : World) (g st ba ck ar : Nat) : Only (fun q => q = g) w (setHead w g st ba ck ar) :=
  ((((Only.refl (fun q => q = g) w).setCell (p := ⟨g, 0, none⟩) (.inl rfl) _).setCell (p := ⟨g, 1, none⟩) (.inl rfl) _).setCell (p := ⟨g, 2, none⟩) (.inl rfl) _).setCell (p := ⟨g, 3, none⟩) (.inl rfl) _
def Cells4 (W : World) (g st ba ck ar : Nat) : Prop := W.cell? ⟨g, 0, none⟩ = some (.int .u64 (st : Nat)) ∧ W.cell? ⟨g, 1, none⟩ = some (.int .u64 (ba : Nat)) ∧ W.cell? ⟨g, 2, none⟩ = some (.int .u64 (ck : Nat)) ∧ W.cell? ⟨g, 3, none⟩ = some (.int .i64 (ar : Nat))
theorem Cells4.of {w : World} {g st ba ck ar : Nat} (k : Blk w g 79 (headV ⟨st, ba, ck, ar⟩)) : Cells4 w g st ba ck ar := ⟨k.cell 0, k.cell 1, k.cell 2, k.cell 3⟩
set_option maxHeartbeats 8000000 in
theorem heads_any (A : Option Addr) (c : Nat) (l : List Nat) (B : Nat) (w : World) (h : Bytes w B A l) (hB : B ≤ w.heap.size) (hl : l.length = 128) (hc : 128 ≤ c) :
    Calls Tryz.prog 73 #[.slice A 128 c] w fun e w' => e = .returned (.tuple #[.agg (headV (wheadP l)), .bool (isHead l)]) ∧ Below w.heap.size w w' := by
  obtain ⟨bb, oo, rfl, hbB, h8⟩ := h.1 8 (by rw [List.length_map, hl]; decide)
  rw [List.getElem_map] at h8
  have hx8 : l.getD 8 0 = l[8]'(by omega) := by rw [List.getD_eq_getElem?_getD, List.getElem?_eq_getElem (by omega)]; rfl
  have hfits := wheadP_fits h.2
  have kz : Blk (w.alloc (.cells #[.int .u64 0, .int .u64 0, .int .u64 0, .int .i64 0] 79)) w.heap.size 79 (headV headZ) := Blk.new w _ _
  have hb := below_alloc w (.cells #[.int .u64 0, .int .u64 0, .int .u64 0, .int .i64 0] 79)
  have hW := (h.below (hb.mono hB))
  have hd : Bytes (w.alloc (.cells #[.int .u64 0, .int .u64 0, .int .u64 0, .int .i64 0] 79)).drew B (some ⟨bb, oo, none⟩) l := hW
  have l1 : (l.take 8).length = 8 := by rw [List.length_take, hl]; rfl
  have l2 : ((l.drop 9).take 8).length = 8 := by rw [List.length_take, List.length_drop, hl]; rfl
  have l3 : ((l.drop 17).take 8).length = 8 := by rw [List.length_take, List.length_drop, hl]; rfl
  have G : Hid (∀ W, Bytes W B (some ⟨bb, oo, none⟩) l → (Calls Tryz.prog 76 #[.slice (some ⟨bb, oo, none⟩) 8 c] W fun e w' => e = .returned (.int .u64 (getL (l.take 8) : Nat)) ∧ W = w') ∧
      (Calls Tryz.prog 76 #[.slice (some ⟨bb, oo + 9, none⟩) 8 (c - 9)] W fun e w' => e = .returned (.int .u64 (getL ((l.drop 9).take 8) : Nat)) ∧ W = w') ∧
      (Calls Tryz.prog 76 #[.slice (some ⟨bb, oo + 17, none⟩) 8 (c - 17)] W fun e w' => e = .returned (.int .u64 (getL ((l.drop 17).take 8) : Nat)) ∧ W = w')) := Lib.hid fun W hd => by
    have g1 := get_any _ c (l.take 8) B _ (hd.take 8) (by omega) (by omega)
    have g2 := get_any _ (c - 9) ((l.drop 9).take 8) B _ ((hd.drop 9).take 8) (by omega) (by omega)
    have g3 := get_any _ (c - 17) ((l.drop 17).take 8) B _ ((hd.drop 17).take 8) (by omega) (by omega)
    rw [l1, List.take_take, show min 8 8 = 8 from rfl] at g1
    rw [l2, List.take_take, show min 8 8 = 8 from rfl] at g2
    rw [l3, List.take_take, show min 8 8 = 8 from rfl] at g3
    exact ⟨g1, g2, g3⟩
  have c8 : (w.alloc (.cells #[.int .u64 0, .int .u64 0, .int .u64 0, .int .i64 0] 79)).cell? ⟨bb, oo + 8, none⟩ = some (.int .u8 (l[8] : Nat)) := ((hb.mono hB).cell (p := ⟨bb, oo + 8, none⟩) hbB).trans h8
  obtain ⟨st, hst⟩ : ∃ x, getL (l.take 8) = x := ⟨_, rfl⟩
  obtain ⟨ba, hba⟩ : ∃ x, getL ((l.drop 9).take 8) = x := ⟨_, rfl⟩
  obtain ⟨ck, hck⟩ : ∃ x, getL ((l.drop 17).take 8) = x := ⟨_, rfl⟩
  obtain ⟨ar, har⟩ : ∃ x, l[8]'(by omega) = x := ⟨_, rfl⟩
  have hHP : wheadP l = ⟨st, ba, ck, ar⟩ := by unfold wheadP; rw [hst, hba, hck, hx8, har]
  rw [hst, hba, hck] at G
  rw [har] at c8
  rw [hHP] at hfits
  have HHP := Lib.hid hHP
  have HIS : Hid (isHead l = (decide (st ≠ 0) && (decide ((ba + 18446744073709551615) % 18446744073709551616 < 9223372036854775808) && (decide (ar < 2) && decide (l = hsec ⟨st, ba, ck, ar⟩))))) := Lib.hid (by unfold isHead; rw [hHP])
  rw [hHP]
  have va : IntKind.i64.wrap (ar : Int) = (ar : Int) := by rw [IntKind.wrap_i64]; have := hfits.2.2.2; simp only at this; omega
  have z1 : (8 : Int) ≤ (c : Int) := by omega
  have z2 : (17 : Int) ≤ (c : Int) := by omega
  have z3 : (25 : Int) ≤ (c : Int) := by omega
  have z4 : (c = 9) = False := eq_false (by omega)
  have z5 : (c = 17) = False := eq_false (by omega)
  have HB := Lib.hid hb
  have HW := Lib.hid hW
  have HKZ := Lib.hid kz
  have HL := Lib.hid hl
  clear l1 l2 l3 hst hba hck har hHP hx8 h8 h hb hW kz hd hl
  go_enter Tryz.func73, Tryz.ntmps73
  go_upto_region 1 with fail
  generalize World.alloc w _ = w1 at *
  have hbw1 : B ≤ w1.heap.size := Nat.le_trans hB HB.out.size
  have A8 : Hid (∀ W, Below w1.heap.size w1 W → W.cell? ⟨bb, oo + 8, none⟩ = some (.int .u8 (ar : Nat)) ∧ Bytes W B (some ⟨bb, oo, none⟩) l) := Lib.hid fun W hW => ⟨((hW.mono hbw1).cell (p := ⟨bb, oo + 8, none⟩) hbB).trans c8, HW.out.below (hW.mono hbw1)⟩
  go_cut [4] (fun v wx => ∃ gx, v = .pointer (some ⟨gx, 0, none⟩) ∧ Blk wx gx 79 (headV ⟨st, ba, ck, ar⟩) ∧ Below w1.heap.size w1 wx ∧ w1.heap.size ≤ gx)
  case first =>
    have b0 : Below w1.heap.size w1 w1.drew := below_drew0 w1
    have ba' : Below w1.heap.size w1 ((w1.alloc (.cells #[.int .u64 0, .int .u64 0, .int .u64 0, .int .i64 0] 79)).drew) := (below_alloc w1 _).drew
    have d0 := A8.out _ b0
    have d1 := A8.out _ ba'
    obtain ⟨G1, G2, G3⟩ := G.out _ d0.2
    obtain ⟨H1, H2, H3⟩ := G.out _ d1.2
    have e0 := d0.1
    have e1 := d1.1
    have ba2 : Below w1.heap.size w1 ((w1.alloc (.cells #[.int .u64 (st : Nat), .int .u64 (ba : Nat), .int .u64 (ck : Nat), .int .i64 (ar : Nat)] 79)).drew) := (below_alloc w1 _).drew
    have e2 := (A8.out _ ba2).1
    have kx : Blk ((w1.alloc (.cells #[.int .u64 (st : Nat), .int .u64 (ba : Nat), .int .u64 (ck : Nat), .int .i64 (ar : Nat)] 79)).drew) w1.heap.size 79 (headV ⟨st, ba, ck, ar⟩) := (Blk.new w1 79 #[.int .u64 (st : Nat), .int .u64 (ba : Nat), .int .u64 (ck : Nat), .int .i64 (ar : Nat)]).drew
    have FIN := Lib.hid (And.intro kx (And.intro ba2 (Nat.le_refl w1.heap.size)))
    clear kx ba2
    go_wp2_with fail
    go_region_held3 (fun W => W.cell? ⟨bb, oo + 8, none⟩ = some (.int .u8 (ar : Nat))) (first | with_reducible (exact e0) | with_reducible (exact e1) | with_reducible (exact e2) | fail) (first
      | ((with_reducible refine G1.mono ?_); rintro e wS ⟨rfl, rfl⟩)
      | ((with_reducible refine G2.mono ?_); rintro e wS ⟨rfl, rfl⟩)
      | ((with_reducible refine G3.mono ?_); rintro e wS ⟨rfl, rfl⟩)
      | ((with_reducible refine H1.mono ?_); rintro e wS ⟨rfl, rfl⟩)
      | ((with_reducible refine H2.mono ?_); rintro e wS ⟨rfl, rfl⟩)
      | ((with_reducible refine H3.mono ?_); rintro e wS ⟨rfl, rfl⟩)
      | fail)
    all_goals
      go_wp2
      go_meet
      case rel => exact ⟨_, rfl, FIN.out⟩
  case rest =>
    obtain ⟨gx, rfl, kx, bx, hgx⟩ := hcut
    rename World => wx
    have hgz : w.heap.size < w1.heap.size := HKZ.out.lt
    have hne : gx ≠ w.heap.size := by omega
    have hgw := kx.lt
    have KZ : Hid (∀ W, Below wx.heap.size wx W → Blk W w.heap.size 79 (headV headZ) ∧ Below w.heap.size w W) := Lib.hid fun W hW => by
      have h1 := bx.trans (hW.mono bx.size)
      exact ⟨HKZ.out.below h1 hgz, HB.out.trans (h1.mono HB.out.size)⟩
    have S4 : Hid (∀ W, Below wx.heap.size wx W → W.cell? ⟨gx, 0, none⟩ = some (.int .u64 (st : Nat)) ∧ W.cell? ⟨gx, 1, none⟩ = some (.int .u64 (ba : Nat)) ∧ W.cell? ⟨gx, 2, none⟩ = some (.int .u64 (ck : Nat)) ∧ W.cell? ⟨gx, 3, none⟩ = some (.int .i64 (ar : Nat))) := Lib.hid fun W hW => Cells4.of (kx.below hW hgw)
    have S5 : Hid (∀ W', Below wx.heap.size wx W' → (fun W => W.cell? ⟨gx, 0, none⟩ = some (.int .u64 (st : Nat)) ∧ W.cell? ⟨gx, 1, none⟩ = some (.int .u64 (ba : Nat)) ∧ W.cell? ⟨gx, 2, none⟩ = some (.int .u64 (ck : Nat)) ∧ W.cell? ⟨gx, 3, none⟩ = some (.int .i64 (ar : Nat))) (setHead W' w.heap.size st ba ck ar)) := Lib.hid fun W hW => Cells4.of ((kx.below hW hgw).only (setHead_only W w.heap.size st ba ck ar) hne)
    simp only [setHead] at S5
    clear G A8 c8
    obtain ⟨q, hq⟩ : ∃ q, (ba + 18446744073709551615) % 18446744073709551616 = q := ⟨_, rfl⟩
    rw [hq] at HIS
    obtain ⟨f0, f1, f2, f3⟩ := hfits
    simp only at f0 f1 f2 f3
    have vq : IntKind.u64.wrap ((ba : Int) - 1) = (q : Int) := by rw [IntKind.wrap_u64]; omega
    clear hq z1 z2 z3 z4 z5 va
    -- WAYS
    have bd := below_drew0 wx
    by_cases h1 : st = 0
    · have t1 : ((st : Int) != 0) = false := by rw [bne_eq_false_iff_eq]; omega
      have HE : Hid (isHead l = false) := Lib.hid (by rw [HIS.out, decide_eq_false (by omega)]; rfl)
      clear h1 HIS vq
      go_upto_region 2 with fail
      refine wp_region_noPanic ?_
      refine wp_region_held_drew (S := fun W => W.cell? ⟨gx, 0, none⟩ = some (.int .u64 (st : Nat)) ∧ W.cell? ⟨gx, 1, none⟩ = some (.int .u64 (ba : Nat)) ∧ W.cell? ⟨gx, 2, none⟩ = some (.int .u64 (ck : Nat)) ∧ W.cell? ⟨gx, 3, none⟩ = some (.int .i64 (ar : Nat))) (by kernel_rfl) (S4.out _ (below_drew0 wx)) (fun hHeld => ?_)
      refine wpAnyH_take (i := 0) (v := ?_) rfl (by kernel_rfl) (by kernel_rfl) (by kernel_rfl) (fun _ _ _ h => h) (Or.inl ⟨by rfl, ?_⟩) (by assumption) ?_
      rotate_left
      · (intro w hSw); (try dsimp only at hSw); go_simp; (try with_reducible rfl)
      try simp only [Act.put, List.getElem_toArray, List.getElem_cons_succ, List.getElem_cons_zero, List.setIfInBounds_toArray, List.set_cons_zero, List.set_cons_succ]
      refine wpAnyH_take (i := 1) (v := ?_) rfl (by kernel_rfl) (by kernel_rfl) (by kernel_rfl) (fun _ _ _ h => h) (Or.inl ⟨by rfl, ?_⟩) (by assumption) ?_
      rotate_left
      · (intro w hSw); (try dsimp only at hSw); go_simp; (try with_reducible rfl)
      try simp only [Act.put, List.getElem_toArray, List.getElem_cons_succ, List.getElem_cons_zero, List.setIfInBounds_toArray, List.set_cons_zero, List.set_cons_succ]
      refine wpAnyH_take (i := 2) (v := ?_) rfl (by kernel_rfl) (by kernel_rfl) (by kernel_rfl) (fun _ _ _ h => h) (Or.inl ⟨by rfl, ?_⟩) (by assumption) ?_
      rotate_left
      · (intro w hSw); (try dsimp only at hSw); go_simp; (try with_reducible rfl)
      try simp only [Act.put, List.getElem_toArray, List.getElem_cons_succ, List.getElem_cons_zero, List.setIfInBounds_toArray, List.set_cons_zero, List.set_cons_succ]
      refine wpAnyH_take (i := 3) (v := ?_) rfl (by kernel_rfl) (by kernel_rfl) (by kernel_rfl) (fun _ _ _ h => h) (Or.inl ⟨by rfl, ?_⟩) (by assumption) ?_
      rotate_left
      · (intro w hSw); (try dsimp only at hSw); go_simp; (try with_reducible rfl)
      try simp only [Act.put, List.getElem_toArray, List.getElem_cons_succ, List.getElem_cons_zero, List.setIfInBounds_toArray, List.set_cons_zero, List.set_cons_succ]
      refine wpAnyH_take (i := 4) (v := ?_) rfl (by kernel_rfl) (by kernel_rfl) (by kernel_rfl) (fun _ _ _ h => h) (Or.inl ⟨by rfl, ?_⟩) (by assumption) ?_
      rotate_left
      · (intro w hSw); (try dsimp only at hSw); go_simp; (try with_reducible rfl)
      try simp only [Act.put, List.getElem_toArray, List.getElem_cons_succ, List.getElem_cons_zero, List.setIfInBounds_toArray, List.set_cons_zero, List.set_cons_succ]
      refine wpAnyH_take (i := 5) (v := undef) rfl (by kernel_rfl) (by kernel_rfl) (by kernel_rfl) (fun _ _ _ h => h) (Or.inr ⟨by rfl, rfl⟩) (by assumption) ?_
      try simp only [Act.put, List.getElem_toArray, List.getElem_cons_succ, List.getElem_cons_zero, List.setIfInBounds_toArray, List.set_cons_zero, List.set_cons_succ]
      refine wpAnyH_take (i := 6) (v := undef) rfl (by kernel_rfl) (by kernel_rfl) (by kernel_rfl) (fun _ _ _ h => h) (Or.inr ⟨by rfl, rfl⟩) (by assumption) ?_
      try simp only [Act.put, List.getElem_toArray, List.getElem_cons_succ, List.getElem_cons_zero, List.setIfInBounds_toArray, List.set_cons_zero, List.set_cons_succ]
      refine wpAnyH_take (i := 7) (v := undef) rfl (by kernel_rfl) (by kernel_rfl) (by kernel_rfl) (fun _ _ _ h => h) (Or.inr ⟨by rfl, rfl⟩) (by assumption) ?_
      try simp only [Act.put, List.getElem_toArray, List.getElem_cons_succ, List.getElem_cons_zero, List.setIfInBounds_toArray, List.set_cons_zero, List.set_cons_succ]
      refine wpAnyH_take (i := 8) (v := undef) rfl (by kernel_rfl) (by kernel_rfl) (by kernel_rfl) (fun _ _ _ h => h) (Or.inr ⟨by rfl, rfl⟩) (by assumption) ?_
      try simp only [Act.put, List.getElem_toArray, List.getElem_cons_succ, List.getElem_cons_zero, List.setIfInBounds_toArray, List.set_cons_zero, List.set_cons_succ]
      refine wpAnyH_take (i := 9) (v := ?_) rfl (by kernel_rfl) (by kernel_rfl) (by kernel_rfl) (fun _ _ _ h => h) (Or.inl ⟨by rfl, ?_⟩) (by assumption) ?_
      rotate_left
      · (intro w hSw); (try dsimp only at hSw); go_simp; (try with_reducible rfl)
      try simp only [Act.put, List.getElem_toArray, List.getElem_cons_succ, List.getElem_cons_zero, List.setIfInBounds_toArray, List.set_cons_zero, List.set_cons_succ]
      refine wpAnyH_take (i := 10) (v := ?_) rfl (by kernel_rfl) (by kernel_rfl) (by kernel_rfl) (fun _ _ _ h => h) (Or.inl ⟨by rfl, ?_⟩) (by assumption) ?_
      rotate_left
      · (intro w hSw); (try dsimp only at hSw); go_simp; (try with_reducible rfl)
      try simp only [Act.put, List.getElem_toArray, List.getElem_cons_succ, List.getElem_cons_zero, List.setIfInBounds_toArray, List.set_cons_zero, List.set_cons_succ]
      refine wpAnyH_take (i := 11) (v := undef) rfl (by kernel_rfl) (by kernel_rfl) (by kernel_rfl) (fun _ _ _ h => h) (Or.inr ⟨by rfl, rfl⟩) (by assumption) ?_
      try simp only [Act.put, List.getElem_toArray, List.getElem_cons_succ, List.getElem_cons_zero, List.setIfInBounds_toArray, List.set_cons_zero, List.set_cons_succ]
      refine wpAnyH_take (i := 12) (v := undef) rfl (by kernel_rfl) (by kernel_rfl) (by kernel_rfl) (fun _ _ _ h => h) (Or.inr ⟨by rfl, rfl⟩) (by assumption) ?_
      try simp only [Act.put, List.getElem_toArray, List.getElem_cons_succ, List.getElem_cons_zero, List.setIfInBounds_toArray, List.set_cons_zero, List.set_cons_succ]
      refine wpAnyH_take (i := 13) (v := undef) rfl (by kernel_rfl) (by kernel_rfl) (by kernel_rfl) (fun _ _ _ h => h) (Or.inr ⟨by rfl, rfl⟩) (by assumption) ?_
      try simp only [Act.put, List.getElem_toArray, List.getElem_cons_succ, List.getElem_cons_zero, List.setIfInBounds_toArray, List.set_cons_zero, List.set_cons_succ]
      refine wpAnyH_take (i := 14) (v := ?_) rfl (by kernel_rfl) (by kernel_rfl) (by kernel_rfl) (fun _ _ _ h => h) (Or.inl ⟨by rfl, ?_⟩) (by assumption) ?_
      rotate_left
      · (intro w hSw); (try dsimp only at hSw); go_simp; (try with_reducible rfl)
      try simp only [Act.put, List.getElem_toArray, List.getElem_cons_succ, List.getElem_cons_zero, List.setIfInBounds_toArray, List.set_cons_zero, List.set_cons_succ]
      refine wpAnyH_take (i := 15) (v := ?_) rfl (by kernel_rfl) (by kernel_rfl) (by kernel_rfl) (fun _ _ _ h => h) (Or.inl ⟨by rfl, ?_⟩) (by assumption) ?_
      rotate_left
      · (intro w hSw); (try dsimp only at hSw); go_simp; (try with_reducible rfl)
      try simp only [Act.put, List.getElem_toArray, List.getElem_cons_succ, List.getElem_cons_zero, List.setIfInBounds_toArray, List.set_cons_zero, List.set_cons_succ]
      refine wpAnyH_take (i := 16) (v := undef) rfl (by kernel_rfl) (by kernel_rfl) (by kernel_rfl) (fun _ _ _ h => h) (Or.inr ⟨by rfl, rfl⟩) (by assumption) ?_
      try simp only [Act.put, List.getElem_toArray, List.getElem_cons_succ, List.getElem_cons_zero, List.setIfInBounds_toArray, List.set_cons_zero, List.set_cons_succ]
      refine wpAnyH_take (i := 17) (v := undef) rfl (by kernel_rfl) (by kernel_rfl) (by kernel_rfl) (fun _ _ _ h => h) (Or.inr ⟨by rfl, rfl⟩) (by assumption) ?_
      try simp only [Act.put, List.getElem_toArray, List.getElem_cons_succ, List.getElem_cons_zero, List.setIfInBounds_toArray, List.set_cons_zero, List.set_cons_succ]
      have bS := bd
      refine wpAnyH_ready (rs := [18]) (by kernel_rfl) (by simp) (AllReadyH.cons rfl (fun K hK => ?_) AllReadyH.nil)
      go_simp
      refine hK.out _ _ hHeld (fun hHeld => ?_)
      clear hK K
      try simp only [Act.put, List.getElem_toArray, List.getElem_cons_succ, List.getElem_cons_zero, List.setIfInBounds_toArray, List.set_cons_zero, List.set_cons_succ]
      refine wpAnyH_ready (rs := [19]) (by kernel_rfl) (by simp) (AllReadyH.cons rfl (fun K hK => ?_) AllReadyH.nil)
      go_simp
      refine hK.out _ _ hHeld (fun hHeld => ?_)
      clear hK K
      try simp only [Act.put, List.getElem_toArray, List.getElem_cons_succ, List.getElem_cons_zero, List.setIfInBounds_toArray, List.set_cons_zero, List.set_cons_succ]
      refine wpAnyH_take (i := 20) (v := ?_) rfl (by kernel_rfl) (by kernel_rfl) (by kernel_rfl) (fun _ _ _ h => h) (Or.inl ⟨by rfl, ?_⟩) (by assumption) ?_
      rotate_left
      · (intro w hSw); (try dsimp only at hSw); go_simp; (try with_reducible rfl)
      try simp only [Act.put, List.getElem_toArray, List.getElem_cons_succ, List.getElem_cons_zero, List.setIfInBounds_toArray, List.set_cons_zero, List.set_cons_succ]
      have k1 := KZ.out _ bS
      have st_ := store_head_all k1.1 rfl ⟨st, ba, ck, ar⟩
      have KF := Lib.hid (row_blk k1.1 (headV ⟨st, ba, ck, ar⟩))
      have BF := Lib.hid (k1.2.trans ((only_row wx.drew w.heap.size (headV ⟨st, ba, ck, ar⟩)).below k1.2.size fun q h => by rw [h]; exact Nat.le_refl _))
      have SF := Cells4.of ((kx.below bS hgw).only (only_row wx.drew w.heap.size (headV ⟨st, ba, ck, ar⟩)) hne)
      refine wpAnyH_ready (rs := [21]) (by kernel_rfl) (by simp) (AllReadyH.cons rfl (fun K hK => ?_) AllReadyH.nil)
      refine step_store_run (by rfl) 79 (.tmp 2) (.tmp 19) _ _ (by rfl) (by rfl) (by rfl) st_ ?_
      refine hK.out _ _ SF (fun hHeld => ?_)
      clear hK K
      try simp only [Act.put, List.getElem_toArray, List.getElem_cons_succ, List.getElem_cons_zero, List.setIfInBounds_toArray, List.set_cons_zero, List.set_cons_succ]
      refine wpAnyH_take (i := 22) (v := ?_) rfl (by kernel_rfl) (by kernel_rfl) (by kernel_rfl) (fun _ _ _ h => h) (Or.inl ⟨by rfl, ?_⟩) (by assumption) ?_
      rotate_left
      · (intro w hSw); (try dsimp only at hSw); go_simp; (try with_reducible rfl)
      try simp only [Act.put, List.getElem_toArray, List.getElem_cons_succ, List.getElem_cons_zero, List.setIfInBounds_toArray, List.set_cons_zero, List.set_cons_succ]
      refine wpAnyH_done (by kernel_rfl) ?_ _
      refine NoPanic.normal ?_
      go_wp2
      refine bodyPost_ret (results_ct rfl _ _ w.heap.size _ rfl (head_whole KF.out)) rfl ?_
      exact ⟨by rw [HE.out]; rfl, BF.out⟩
    have t1 : ((st : Int) != 0) = true := by rw [bne_iff_ne]; omega
    by_cases h2 : q < 9223372036854775808
    rotate_left
    · have t2 : decide ((q : Int) < 9223372036854775808) = false := by rw [decide_eq_false_iff_not]; omega
      have HE : Hid (isHead l = false) := Lib.hid (by rw [HIS.out, decide_eq_false h2, Bool.false_and, Bool.and_false])
      clear h1 HIS
      go_upto_region 2 with fail
      refine wp_region_noPanic ?_
      refine wp_region_held_drew (S := fun W => W.cell? ⟨gx, 0, none⟩ = some (.int .u64 (st : Nat)) ∧ W.cell? ⟨gx, 1, none⟩ = some (.int .u64 (ba : Nat)) ∧ W.cell? ⟨gx, 2, none⟩ = some (.int .u64 (ck : Nat)) ∧ W.cell? ⟨gx, 3, none⟩ = some (.int .i64 (ar : Nat))) (by kernel_rfl) (S4.out _ (below_drew0 wx)) (fun hHeld => ?_)
      refine wpAnyH_take (i := 0) (v := ?_) rfl (by kernel_rfl) (by kernel_rfl) (by kernel_rfl) (fun _ _ _ h => h) (Or.inl ⟨by rfl, ?_⟩) (by assumption) ?_
      rotate_left
      · (intro w hSw); (try dsimp only at hSw); go_simp; (try with_reducible rfl)
      try simp only [Act.put, List.getElem_toArray, List.getElem_cons_succ, List.getElem_cons_zero, List.setIfInBounds_toArray, List.set_cons_zero, List.set_cons_succ]
      refine wpAnyH_take (i := 1) (v := ?_) rfl (by kernel_rfl) (by kernel_rfl) (by kernel_rfl) (fun _ _ _ h => h) (Or.inl ⟨by rfl, ?_⟩) (by assumption) ?_
      rotate_left
      · (intro w hSw); (try dsimp only at hSw); go_simp; (try with_reducible rfl)
      try simp only [Act.put, List.getElem_toArray, List.getElem_cons_succ, List.getElem_cons_zero, List.setIfInBounds_toArray, List.set_cons_zero, List.set_cons_succ]
      refine wpAnyH_take (i := 2) (v := ?_) rfl (by kernel_rfl) (by kernel_rfl) (by kernel_rfl) (fun _ _ _ h => h) (Or.inl ⟨by rfl, ?_⟩) (by assumption) ?_
      rotate_left
      · (intro w hSw); (try dsimp only at hSw); go_simp; (try with_reducible rfl)
      try simp only [Act.put, List.getElem_toArray, List.getElem_cons_succ, List.getElem_cons_zero, List.setIfInBounds_toArray, List.set_cons_zero, List.set_cons_succ]
      refine wpAnyH_take (i := 3) (v := ?_) rfl (by kernel_rfl) (by kernel_rfl) (by kernel_rfl) (fun _ _ _ h => h) (Or.inl ⟨by rfl, ?_⟩) (by assumption) ?_
      rotate_left
      · (intro w hSw); (try dsimp only at hSw); go_simp; (try with_reducible rfl)
      try simp only [Act.put, List.getElem_toArray, List.getElem_cons_succ, List.getElem_cons_zero, List.setIfInBounds_toArray, List.set_cons_zero, List.set_cons_succ]
      refine wpAnyH_take (i := 4) (v := ?_) rfl (by kernel_rfl) (by kernel_rfl) (by kernel_rfl) (fun _ _ _ h => h) (Or.inl ⟨by rfl, ?_⟩) (by assumption) ?_
      rotate_left
      · (intro w hSw); (try dsimp only at hSw); go_simp; (try with_reducible rfl)
      try simp only [Act.put, List.getElem_toArray, List.getElem_cons_succ, List.getElem_cons_zero, List.setIfInBounds_toArray, List.set_cons_zero, List.set_cons_succ]
      refine wpAnyH_take (i := 5) (v := ?_) rfl (by kernel_rfl) (by kernel_rfl) (by kernel_rfl) (fun _ _ _ h => h) (Or.inl ⟨by rfl, ?_⟩) (by assumption) ?_
      rotate_left
      · (intro w hSw); (try dsimp only at hSw); go_simp; (try with_reducible rfl)
      try simp only [Act.put, List.getElem_toArray, List.getElem_cons_succ, List.getElem_cons_zero, List.setIfInBounds_toArray, List.set_cons_zero, List.set_cons_succ]
      refine wpAnyH_take (i := 6) (v := ?_) rfl (by kernel_rfl) (by kernel_rfl) (by kernel_rfl) (fun _ _ _ h => h) (Or.inl ⟨by rfl, ?_⟩) (by assumption) ?_
      rotate_left
      · (intro w hSw); (try dsimp only at hSw); go_simp; (try with_reducible rfl)
      try simp only [Act.put, List.getElem_toArray, List.getElem_cons_succ, List.getElem_cons_zero, List.setIfInBounds_toArray, List.set_cons_zero, List.set_cons_succ]
      refine wpAnyH_take (i := 7) (v := ?_) rfl (by kernel_rfl) (by kernel_rfl) (by kernel_rfl) (fun _ _ _ h => h) (Or.inl ⟨by rfl, ?_⟩) (by assumption) ?_
      rotate_left
      · (intro w hSw); (try dsimp only at hSw); go_simp; (try with_reducible rfl)
      try simp only [Act.put, List.getElem_toArray, List.getElem_cons_succ, List.getElem_cons_zero, List.setIfInBounds_toArray, List.set_cons_zero, List.set_cons_succ]
      refine wpAnyH_take (i := 8) (v := ?_) rfl (by kernel_rfl) (by kernel_rfl) (by kernel_rfl) (fun _ _ _ h => h) (Or.inl ⟨by rfl, ?_⟩) (by assumption) ?_
      rotate_left
      · (intro w hSw); (try dsimp only at hSw); go_simp; (try with_reducible rfl)
      try simp only [Act.put, List.getElem_toArray, List.getElem_cons_succ, List.getElem_cons_zero, List.setIfInBounds_toArray, List.set_cons_zero, List.set_cons_succ]
      refine wpAnyH_take (i := 9) (v := ?_) rfl (by kernel_rfl) (by kernel_rfl) (by kernel_rfl) (fun _ _ _ h => h) (Or.inl ⟨by rfl, ?_⟩) (by assumption) ?_
      rotate_left
      · (intro w hSw); (try dsimp only at hSw); go_simp; (try with_reducible rfl)
      try simp only [Act.put, List.getElem_toArray, List.getElem_cons_succ, List.getElem_cons_zero, List.setIfInBounds_toArray, List.set_cons_zero, List.set_cons_succ]
      refine wpAnyH_take (i := 10) (v := ?_) rfl (by kernel_rfl) (by kernel_rfl) (by kernel_rfl) (fun _ _ _ h => h) (Or.inl ⟨by rfl, ?_⟩) (by assumption) ?_
      rotate_left
      · (intro w hSw); (try dsimp only at hSw); go_simp; (try with_reducible rfl)
      try simp only [Act.put, List.getElem_toArray, List.getElem_cons_succ, List.getElem_cons_zero, List.setIfInBounds_toArray, List.set_cons_zero, List.set_cons_succ]
      refine wpAnyH_take (i := 11) (v := undef) rfl (by kernel_rfl) (by kernel_rfl) (by kernel_rfl) (fun _ _ _ h => h) (Or.inr ⟨by rfl, rfl⟩) (by assumption) ?_
      try simp only [Act.put, List.getElem_toArray, List.getElem_cons_succ, List.getElem_cons_zero, List.setIfInBounds_toArray, List.set_cons_zero, List.set_cons_succ]
      refine wpAnyH_take (i := 12) (v := undef) rfl (by kernel_rfl) (by kernel_rfl) (by kernel_rfl) (fun _ _ _ h => h) (Or.inr ⟨by rfl, rfl⟩) (by assumption) ?_
      try simp only [Act.put, List.getElem_toArray, List.getElem_cons_succ, List.getElem_cons_zero, List.setIfInBounds_toArray, List.set_cons_zero, List.set_cons_succ]
      refine wpAnyH_take (i := 13) (v := undef) rfl (by kernel_rfl) (by kernel_rfl) (by kernel_rfl) (fun _ _ _ h => h) (Or.inr ⟨by rfl, rfl⟩) (by assumption) ?_
      try simp only [Act.put, List.getElem_toArray, List.getElem_cons_succ, List.getElem_cons_zero, List.setIfInBounds_toArray, List.set_cons_zero, List.set_cons_succ]
      refine wpAnyH_take (i := 14) (v := ?_) rfl (by kernel_rfl) (by kernel_rfl) (by kernel_rfl) (fun _ _ _ h => h) (Or.inl ⟨by rfl, ?_⟩) (by assumption) ?_
      rotate_left
      · (intro w hSw); (try dsimp only at hSw); go_simp; (try with_reducible rfl)
      try simp only [Act.put, List.getElem_toArray, List.getElem_cons_succ, List.getElem_cons_zero, List.setIfInBounds_toArray, List.set_cons_zero, List.set_cons_succ]
      refine wpAnyH_take (i := 15) (v := ?_) rfl (by kernel_rfl) (by kernel_rfl) (by kernel_rfl) (fun _ _ _ h => h) (Or.inl ⟨by rfl, ?_⟩) (by assumption) ?_
      rotate_left
      · (intro w hSw); (try dsimp only at hSw); go_simp; (try with_reducible rfl)
      try simp only [Act.put, List.getElem_toArray, List.getElem_cons_succ, List.getElem_cons_zero, List.setIfInBounds_toArray, List.set_cons_zero, List.set_cons_succ]
      refine wpAnyH_take (i := 16) (v := undef) rfl (by kernel_rfl) (by kernel_rfl) (by kernel_rfl) (fun _ _ _ h => h) (Or.inr ⟨by rfl, rfl⟩) (by assumption) ?_
      try simp only [Act.put, List.getElem_toArray, List.getElem_cons_succ, List.getElem_cons_zero, List.setIfInBounds_toArray, List.set_cons_zero, List.set_cons_succ]
      refine wpAnyH_take (i := 17) (v := undef) rfl (by kernel_rfl) (by kernel_rfl) (by kernel_rfl) (fun _ _ _ h => h) (Or.inr ⟨by rfl, rfl⟩) (by assumption) ?_
      try simp only [Act.put, List.getElem_toArray, List.getElem_cons_succ, List.getElem_cons_zero, List.setIfInBounds_toArray, List.set_cons_zero, List.set_cons_succ]
      have bS := bd
      refine wpAnyH_ready (rs := [18]) (by kernel_rfl) (by simp) (AllReadyH.cons rfl (fun K hK => ?_) AllReadyH.nil)
      go_simp
      refine hK.out _ _ hHeld (fun hHeld => ?_)
      clear hK K
      try simp only [Act.put, List.getElem_toArray, List.getElem_cons_succ, List.getElem_cons_zero, List.setIfInBounds_toArray, List.set_cons_zero, List.set_cons_succ]
      refine wpAnyH_ready (rs := [19]) (by kernel_rfl) (by simp) (AllReadyH.cons rfl (fun K hK => ?_) AllReadyH.nil)
      go_simp
      refine hK.out _ _ hHeld (fun hHeld => ?_)
      clear hK K
      try simp only [Act.put, List.getElem_toArray, List.getElem_cons_succ, List.getElem_cons_zero, List.setIfInBounds_toArray, List.set_cons_zero, List.set_cons_succ]
      refine wpAnyH_take (i := 20) (v := ?_) rfl (by kernel_rfl) (by kernel_rfl) (by kernel_rfl) (fun _ _ _ h => h) (Or.inl ⟨by rfl, ?_⟩) (by assumption) ?_
      rotate_left
      · (intro w hSw); (try dsimp only at hSw); go_simp; (try with_reducible rfl)
      try simp only [Act.put, List.getElem_toArray, List.getElem_cons_succ, List.getElem_cons_zero, List.setIfInBounds_toArray, List.set_cons_zero, List.set_cons_succ]
      have k1 := KZ.out _ bS
      have st_ := store_head_all k1.1 rfl ⟨st, ba, ck, ar⟩
      have KF := Lib.hid (row_blk k1.1 (headV ⟨st, ba, ck, ar⟩))
      have BF := Lib.hid (k1.2.trans ((only_row wx.drew w.heap.size (headV ⟨st, ba, ck, ar⟩)).below k1.2.size fun q h => by rw [h]; exact Nat.le_refl _))
      have SF := Cells4.of ((kx.below bS hgw).only (only_row wx.drew w.heap.size (headV ⟨st, ba, ck, ar⟩)) hne)
      refine wpAnyH_ready (rs := [21]) (by kernel_rfl) (by simp) (AllReadyH.cons rfl (fun K hK => ?_) AllReadyH.nil)
      refine step_store_run (by rfl) 79 (.tmp 2) (.tmp 19) _ _ (by rfl) (by rfl) (by rfl) st_ ?_
      refine hK.out _ _ SF (fun hHeld => ?_)
      clear hK K
      try simp only [Act.put, List.getElem_toArray, List.getElem_cons_succ, List.getElem_cons_zero, List.setIfInBounds_toArray, List.set_cons_zero, List.set_cons_succ]
      refine wpAnyH_take (i := 22) (v := ?_) rfl (by kernel_rfl) (by kernel_rfl) (by kernel_rfl) (fun _ _ _ h => h) (Or.inl ⟨by rfl, ?_⟩) (by assumption) ?_
      rotate_left
      · (intro w hSw); (try dsimp only at hSw); go_simp; (try with_reducible rfl)
      try simp only [Act.put, List.getElem_toArray, List.getElem_cons_succ, List.getElem_cons_zero, List.setIfInBounds_toArray, List.set_cons_zero, List.set_cons_succ]
      refine wpAnyH_done (by kernel_rfl) ?_ _
      refine NoPanic.normal ?_
      go_wp2
      refine bodyPost_ret (results_ct rfl _ _ w.heap.size _ rfl (head_whole KF.out)) rfl ?_
      exact ⟨by rw [HE.out]; rfl, BF.out⟩
    have t2 : decide ((q : Int) < 9223372036854775808) = true := by rw [decide_eq_true_iff]; omega
    by_cases h3 : ar < 2
    rotate_left
    · have t3 : decide ((ar : Int) < 2) = false := by rw [decide_eq_false_iff_not]; omega
      have HE : Hid (isHead l = false) := Lib.hid (by rw [HIS.out, decide_eq_false h3, Bool.false_and, Bool.and_false, Bool.and_false])
      clear h1 HIS
      go_upto_region 2 with fail
      refine wp_region_noPanic ?_
      refine wp_region_held_drew (S := fun W => W.cell? ⟨gx, 0, none⟩ = some (.int .u64 (st : Nat)) ∧ W.cell? ⟨gx, 1, none⟩ = some (.int .u64 (ba : Nat)) ∧ W.cell? ⟨gx, 2, none⟩ = some (.int .u64 (ck : Nat)) ∧ W.cell? ⟨gx, 3, none⟩ = some (.int .i64 (ar : Nat))) (by kernel_rfl) (S4.out _ (below_drew0 wx)) (fun hHeld => ?_)
      refine wpAnyH_take (i := 0) (v := ?_) rfl (by kernel_rfl) (by kernel_rfl) (by kernel_rfl) (fun _ _ _ h => h) (Or.inl ⟨by rfl, ?_⟩) (by assumption) ?_
      rotate_left
      · (intro w hSw); (try dsimp only at hSw); go_simp; (try with_reducible rfl)
      try simp only [Act.put, List.getElem_toArray, List.getElem_cons_succ, List.getElem_cons_zero, List.setIfInBounds_toArray, List.set_cons_zero, List.set_cons_succ]
      refine wpAnyH_take (i := 1) (v := ?_) rfl (by kernel_rfl) (by kernel_rfl) (by kernel_rfl) (fun _ _ _ h => h) (Or.inl ⟨by rfl, ?_⟩) (by assumption) ?_
      rotate_left
      · (intro w hSw); (try dsimp only at hSw); go_simp; (try with_reducible rfl)
      try simp only [Act.put, List.getElem_toArray, List.getElem_cons_succ, List.getElem_cons_zero, List.setIfInBounds_toArray, List.set_cons_zero, List.set_cons_succ]
      refine wpAnyH_take (i := 2) (v := ?_) rfl (by kernel_rfl) (by kernel_rfl) (by kernel_rfl) (fun _ _ _ h => h) (Or.inl ⟨by rfl, ?_⟩) (by assumption) ?_
      rotate_left
      · (intro w hSw); (try dsimp only at hSw); go_simp; (try with_reducible rfl)
      try simp only [Act.put, List.getElem_toArray, List.getElem_cons_succ, List.getElem_cons_zero, List.setIfInBounds_toArray, List.set_cons_zero, List.set_cons_succ]
      refine wpAnyH_take (i := 3) (v := ?_) rfl (by kernel_rfl) (by kernel_rfl) (by kernel_rfl) (fun _ _ _ h => h) (Or.inl ⟨by rfl, ?_⟩) (by assumption) ?_
      rotate_left
      · (intro w hSw); (try dsimp only at hSw); go_simp; (try with_reducible rfl)
      try simp only [Act.put, List.getElem_toArray, List.getElem_cons_succ, List.getElem_cons_zero, List.setIfInBounds_toArray, List.set_cons_zero, List.set_cons_succ]
      refine wpAnyH_take (i := 4) (v := ?_) rfl (by kernel_rfl) (by kernel_rfl) (by kernel_rfl) (fun _ _ _ h => h) (Or.inl ⟨by rfl, ?_⟩) (by assumption) ?_
      rotate_left
      · (intro w hSw); (try dsimp only at hSw); go_simp; (try with_reducible rfl)
      try simp only [Act.put, List.getElem_toArray, List.getElem_cons_succ, List.getElem_cons_zero, List.setIfInBounds_toArray, List.set_cons_zero, List.set_cons_succ]
      refine wpAnyH_take (i := 5) (v := ?_) rfl (by kernel_rfl) (by kernel_rfl) (by kernel_rfl) (fun _ _ _ h => h) (Or.inl ⟨by rfl, ?_⟩) (by assumption) ?_
      rotate_left
      · (intro w hSw); (try dsimp only at hSw); go_simp; (try with_reducible rfl)
      try simp only [Act.put, List.getElem_toArray, List.getElem_cons_succ, List.getElem_cons_zero, List.setIfInBounds_toArray, List.set_cons_zero, List.set_cons_succ]
      refine wpAnyH_take (i := 6) (v := ?_) rfl (by kernel_rfl) (by kernel_rfl) (by kernel_rfl) (fun _ _ _ h => h) (Or.inl ⟨by rfl, ?_⟩) (by assumption) ?_
      rotate_left
      · (intro w hSw); (try dsimp only at hSw); go_simp; (try with_reducible rfl)
      try simp only [Act.put, List.getElem_toArray, List.getElem_cons_succ, List.getElem_cons_zero, List.setIfInBounds_toArray, List.set_cons_zero, List.set_cons_succ]
      refine wpAnyH_take (i := 7) (v := ?_) rfl (by kernel_rfl) (by kernel_rfl) (by kernel_rfl) (fun _ _ _ h => h) (Or.inl ⟨by rfl, ?_⟩) (by assumption) ?_
      rotate_left
      · (intro w hSw); (try dsimp only at hSw); go_simp; (try with_reducible rfl)
      try simp only [Act.put, List.getElem_toArray, List.getElem_cons_succ, List.getElem_cons_zero, List.setIfInBounds_toArray, List.set_cons_zero, List.set_cons_succ]
      refine wpAnyH_take (i := 8) (v := ?_) rfl (by kernel_rfl) (by kernel_rfl) (by kernel_rfl) (fun _ _ _ h => h) (Or.inl ⟨by rfl, ?_⟩) (by assumption) ?_
      rotate_left
      · (intro w hSw); (try dsimp only at hSw); go_simp; (try with_reducible rfl)
      try simp only [Act.put, List.getElem_toArray, List.getElem_cons_succ, List.getElem_cons_zero, List.setIfInBounds_toArray, List.set_cons_zero, List.set_cons_succ]
      refine wpAnyH_take (i := 9) (v := ?_) rfl (by kernel_rfl) (by kernel_rfl) (by kernel_rfl) (fun _ _ _ h => h) (Or.inl ⟨by rfl, ?_⟩) (by assumption) ?_
      rotate_left
      · (intro w hSw); (try dsimp only at hSw); go_simp; (try with_reducible rfl)
      try simp only [Act.put, List.getElem_toArray, List.getElem_cons_succ, List.getElem_cons_zero, List.setIfInBounds_toArray, List.set_cons_zero, List.set_cons_succ]
      refine wpAnyH_take (i := 10) (v := ?_) rfl (by kernel_rfl) (by kernel_rfl) (by kernel_rfl) (fun _ _ _ h => h) (Or.inl ⟨by rfl, ?_⟩) (by assumption) ?_
      rotate_left
      · (intro w hSw); (try dsimp only at hSw); go_simp; (try with_reducible rfl)
      try simp only [Act.put, List.getElem_toArray, List.getElem_cons_succ, List.getElem_cons_zero, List.setIfInBounds_toArray, List.set_cons_zero, List.set_cons_succ]
      refine wpAnyH_take (i := 11) (v := ?_) rfl (by kernel_rfl) (by kernel_rfl) (by kernel_rfl) (fun _ _ _ h => h) (Or.inl ⟨by rfl, ?_⟩) (by assumption) ?_
      rotate_left
      · (intro w hSw); (try dsimp only at hSw); go_simp; (try with_reducible rfl)
      try simp only [Act.put, List.getElem_toArray, List.getElem_cons_succ, List.getElem_cons_zero, List.setIfInBounds_toArray, List.set_cons_zero, List.set_cons_succ]
      refine wpAnyH_take (i := 12) (v := ?_) rfl (by kernel_rfl) (by kernel_rfl) (by kernel_rfl) (fun _ _ _ h => h) (Or.inl ⟨by rfl, ?_⟩) (by assumption) ?_
      rotate_left
      · (intro w hSw); (try dsimp only at hSw); go_simp; (try with_reducible rfl)
      try simp only [Act.put, List.getElem_toArray, List.getElem_cons_succ, List.getElem_cons_zero, List.setIfInBounds_toArray, List.set_cons_zero, List.set_cons_succ]
      refine wpAnyH_take (i := 13) (v := ?_) rfl (by kernel_rfl) (by kernel_rfl) (by kernel_rfl) (fun _ _ _ h => h) (Or.inl ⟨by rfl, ?_⟩) (by assumption) ?_
      rotate_left
      · (intro w hSw); (try dsimp only at hSw); go_simp; (try with_reducible rfl)
      try simp only [Act.put, List.getElem_toArray, List.getElem_cons_succ, List.getElem_cons_zero, List.setIfInBounds_toArray, List.set_cons_zero, List.set_cons_succ]
      refine wpAnyH_take (i := 14) (v := ?_) rfl (by kernel_rfl) (by kernel_rfl) (by kernel_rfl) (fun _ _ _ h => h) (Or.inl ⟨by rfl, ?_⟩) (by assumption) ?_
      rotate_left
      · (intro w hSw); (try dsimp only at hSw); go_simp; (try with_reducible rfl)
      try simp only [Act.put, List.getElem_toArray, List.getElem_cons_succ, List.getElem_cons_zero, List.setIfInBounds_toArray, List.set_cons_zero, List.set_cons_succ]
      refine wpAnyH_take (i := 15) (v := ?_) rfl (by kernel_rfl) (by kernel_rfl) (by kernel_rfl) (fun _ _ _ h => h) (Or.inl ⟨by rfl, ?_⟩) (by assumption) ?_
      rotate_left
      · (intro w hSw); (try dsimp only at hSw); go_simp; (try with_reducible rfl)
      try simp only [Act.put, List.getElem_toArray, List.getElem_cons_succ, List.getElem_cons_zero, List.setIfInBounds_toArray, List.set_cons_zero, List.set_cons_succ]
      refine wpAnyH_take (i := 16) (v := undef) rfl (by kernel_rfl) (by kernel_rfl) (by kernel_rfl) (fun _ _ _ h => h) (Or.inr ⟨by rfl, rfl⟩) (by assumption) ?_
      try simp only [Act.put, List.getElem_toArray, List.getElem_cons_succ, List.getElem_cons_zero, List.setIfInBounds_toArray, List.set_cons_zero, List.set_cons_succ]
      refine wpAnyH_take (i := 17) (v := undef) rfl (by kernel_rfl) (by kernel_rfl) (by kernel_rfl) (fun _ _ _ h => h) (Or.inr ⟨by rfl, rfl⟩) (by assumption) ?_
      try simp only [Act.put, List.getElem_toArray, List.getElem_cons_succ, List.getElem_cons_zero, List.setIfInBounds_toArray, List.set_cons_zero, List.set_cons_succ]
      have bS := bd
      refine wpAnyH_ready (rs := [18]) (by kernel_rfl) (by simp) (AllReadyH.cons rfl (fun K hK => ?_) AllReadyH.nil)
      go_simp
      refine hK.out _ _ hHeld (fun hHeld => ?_)
      clear hK K
      try simp only [Act.put, List.getElem_toArray, List.getElem_cons_succ, List.getElem_cons_zero, List.setIfInBounds_toArray, List.set_cons_zero, List.set_cons_succ]
      refine wpAnyH_ready (rs := [19]) (by kernel_rfl) (by simp) (AllReadyH.cons rfl (fun K hK => ?_) AllReadyH.nil)
      go_simp
      refine hK.out _ _ hHeld (fun hHeld => ?_)
      clear hK K
      try simp only [Act.put, List.getElem_toArray, List.getElem_cons_succ, List.getElem_cons_zero, List.setIfInBounds_toArray, List.set_cons_zero, List.set_cons_succ]
      refine wpAnyH_take (i := 20) (v := ?_) rfl (by kernel_rfl) (by kernel_rfl) (by kernel_rfl) (fun _ _ _ h => h) (Or.inl ⟨by rfl, ?_⟩) (by assumption) ?_
      rotate_left
      · (intro w hSw); (try dsimp only at hSw); go_simp; (try with_reducible rfl)
      try simp only [Act.put, List.getElem_toArray, List.getElem_cons_succ, List.getElem_cons_zero, List.setIfInBounds_toArray, List.set_cons_zero, List.set_cons_succ]
      have k1 := KZ.out _ bS
      have st_ := store_head_all k1.1 rfl ⟨st, ba, ck, ar⟩
      have KF := Lib.hid (row_blk k1.1 (headV ⟨st, ba, ck, ar⟩))
      have BF := Lib.hid (k1.2.trans ((only_row wx.drew w.heap.size (headV ⟨st, ba, ck, ar⟩)).below k1.2.size fun q h => by rw [h]; exact Nat.le_refl _))
      have SF := Cells4.of ((kx.below bS hgw).only (only_row wx.drew w.heap.size (headV ⟨st, ba, ck, ar⟩)) hne)
      refine wpAnyH_ready (rs := [21]) (by kernel_rfl) (by simp) (AllReadyH.cons rfl (fun K hK => ?_) AllReadyH.nil)
      refine step_store_run (by rfl) 79 (.tmp 2) (.tmp 19) _ _ (by rfl) (by rfl) (by rfl) st_ ?_
      refine hK.out _ _ SF (fun hHeld => ?_)
      clear hK K
      try simp only [Act.put, List.getElem_toArray, List.getElem_cons_succ, List.getElem_cons_zero, List.setIfInBounds_toArray, List.set_cons_zero, List.set_cons_succ]
      refine wpAnyH_take (i := 22) (v := ?_) rfl (by kernel_rfl) (by kernel_rfl) (by kernel_rfl) (fun _ _ _ h => h) (Or.inl ⟨by rfl, ?_⟩) (by assumption) ?_
      rotate_left
      · (intro w hSw); (try dsimp only at hSw); go_simp; (try with_reducible rfl)
      try simp only [Act.put, List.getElem_toArray, List.getElem_cons_succ, List.getElem_cons_zero, List.setIfInBounds_toArray, List.set_cons_zero, List.set_cons_succ]
      refine wpAnyH_done (by kernel_rfl) ?_ _
      refine NoPanic.normal ?_
      go_wp2
      refine bodyPost_ret (results_ct rfl _ _ w.heap.size _ rfl (head_whole KF.out)) rfl ?_
      exact ⟨by rw [HE.out]; rfl, BF.out⟩
    have t3 : decide ((ar : Int) < 2) = true := by rw [decide_eq_true_iff]; omega
    have HE : Hid (isHead l = decide (l = hsec ⟨st, ba, ck, ar⟩)) := Lib.hid (by rw [HIS.out, decide_eq_true h1, decide_eq_true h2, decide_eq_true h3, Bool.true_and, Bool.true_and, Bool.true_and])
    have cs : Calls Tryz.prog 106 #[.agg #[.int .u64 (st : Nat), .int .u64 (ba : Nat), .int .u64 (ck : Nat), .int .i64 (ar : Nat)]] wx.drew (RetBytes 5 (hsec ⟨st, ba, ck, ar⟩) wx.drew) := sector_any ⟨st, ba, ck, ar⟩ ⟨f0, f1, f2, f3⟩ wx.drew
    have EQ : Hid (∀ W A3 c3, Below wx.heap.size wx W → W.ownsRow wx.drew.heap.size 5 1 (.slice A3 (hsec ⟨st, ba, ck, ar⟩).length c3) (hsec ⟨st, ba, ck, ar⟩).length ((hsec ⟨st, ba, ck, ar⟩).map byteV) → Small (hsec ⟨st, ba, ck, ar⟩) → Calls Tryz.prog 78 #[.slice (some ⟨bb, oo, none⟩) 128 c, .slice A3 (hsec ⟨st, ba, ck, ar⟩).length c3] W fun e w' => e = .returned (.bool (decide (l = hsec ⟨st, ba, ck, ar⟩))) ∧ W = w') := Lib.hid fun W A3 c3 b o s => by
      have := equal_any (some ⟨bb, oo, none⟩) A3 c c3 l _ W.heap.size W ((HW.out.below ((bx.trans (b.mono bx.size)).mono hbw1)).more (Nat.le_trans hbw1 (Nat.le_trans bx.size b.size))) (own_bytes o s)
      rw [HL.out] at this
      exact this
    clear h1 HIS
    go_upto_region 2 with fail
    refine wp_region_noPanic ?_
    refine wp_region_held_drew (S := fun W => W.cell? ⟨gx, 0, none⟩ = some (.int .u64 (st : Nat)) ∧ W.cell? ⟨gx, 1, none⟩ = some (.int .u64 (ba : Nat)) ∧ W.cell? ⟨gx, 2, none⟩ = some (.int .u64 (ck : Nat)) ∧ W.cell? ⟨gx, 3, none⟩ = some (.int .i64 (ar : Nat))) (by kernel_rfl) (S4.out _ (below_drew0 wx)) (fun hHeld => ?_)
    refine wpAnyH_take (i := 0) (v := ?_) rfl (by kernel_rfl) (by kernel_rfl) (by kernel_rfl) (fun _ _ _ h => h) (Or.inl ⟨by rfl, ?_⟩) (by assumption) ?_
    rotate_left
    · (intro w hSw); (try dsimp only at hSw); go_simp; (try with_reducible rfl)
    try simp only [Act.put, List.getElem_toArray, List.getElem_cons_succ, List.getElem_cons_zero, List.setIfInBounds_toArray, List.set_cons_zero, List.set_cons_succ]
    refine wpAnyH_take (i := 1) (v := ?_) rfl (by kernel_rfl) (by kernel_rfl) (by kernel_rfl) (fun _ _ _ h => h) (Or.inl ⟨by rfl, ?_⟩) (by assumption) ?_
    rotate_left
    · (intro w hSw); (try dsimp only at hSw); go_simp; (try with_reducible rfl)
    try simp only [Act.put, List.getElem_toArray, List.getElem_cons_succ, List.getElem_cons_zero, List.setIfInBounds_toArray, List.set_cons_zero, List.set_cons_succ]
    refine wpAnyH_take (i := 2) (v := ?_) rfl (by kernel_rfl) (by kernel_rfl) (by kernel_rfl) (fun _ _ _ h => h) (Or.inl ⟨by rfl, ?_⟩) (by assumption) ?_
    rotate_left
    · (intro w hSw); (try dsimp only at hSw); go_simp; (try with_reducible rfl)
    try simp only [Act.put, List.getElem_toArray, List.getElem_cons_succ, List.getElem_cons_zero, List.setIfInBounds_toArray, List.set_cons_zero, List.set_cons_succ]
    refine wpAnyH_take (i := 3) (v := ?_) rfl (by kernel_rfl) (by kernel_rfl) (by kernel_rfl) (fun _ _ _ h => h) (Or.inl ⟨by rfl, ?_⟩) (by assumption) ?_
    rotate_left
    · (intro w hSw); (try dsimp only at hSw); go_simp; (try with_reducible rfl)
    try simp only [Act.put, List.getElem_toArray, List.getElem_cons_succ, List.getElem_cons_zero, List.setIfInBounds_toArray, List.set_cons_zero, List.set_cons_succ]
    refine wpAnyH_take (i := 4) (v := ?_) rfl (by kernel_rfl) (by kernel_rfl) (by kernel_rfl) (fun _ _ _ h => h) (Or.inl ⟨by rfl, ?_⟩) (by assumption) ?_
    rotate_left
    · (intro w hSw); (try dsimp only at hSw); go_simp; (try with_reducible rfl)
    try simp only [Act.put, List.getElem_toArray, List.getElem_cons_succ, List.getElem_cons_zero, List.setIfInBounds_toArray, List.set_cons_zero, List.set_cons_succ]
    refine wpAnyH_take (i := 5) (v := ?_) rfl (by kernel_rfl) (by kernel_rfl) (by kernel_rfl) (fun _ _ _ h => h) (Or.inl ⟨by rfl, ?_⟩) (by assumption) ?_
    rotate_left
    · (intro w hSw); (try dsimp only at hSw); go_simp; (try with_reducible rfl)
    try simp only [Act.put, List.getElem_toArray, List.getElem_cons_succ, List.getElem_cons_zero, List.setIfInBounds_toArray, List.set_cons_zero, List.set_cons_succ]
    refine wpAnyH_take (i := 6) (v := ?_) rfl (by kernel_rfl) (by kernel_rfl) (by kernel_rfl) (fun _ _ _ h => h) (Or.inl ⟨by rfl, ?_⟩) (by assumption) ?_
    rotate_left
    · (intro w hSw); (try dsimp only at hSw); go_simp; (try with_reducible rfl)
    try simp only [Act.put, List.getElem_toArray, List.getElem_cons_succ, List.getElem_cons_zero, List.setIfInBounds_toArray, List.set_cons_zero, List.set_cons_succ]
    refine wpAnyH_take (i := 7) (v := ?_) rfl (by kernel_rfl) (by kernel_rfl) (by kernel_rfl) (fun _ _ _ h => h) (Or.inl ⟨by rfl, ?_⟩) (by assumption) ?_
    rotate_left
    · (intro w hSw); (try dsimp only at hSw); go_simp; (try with_reducible rfl)
    try simp only [Act.put, List.getElem_toArray, List.getElem_cons_succ, List.getElem_cons_zero, List.setIfInBounds_toArray, List.set_cons_zero, List.set_cons_succ]
    refine wpAnyH_take (i := 8) (v := ?_) rfl (by kernel_rfl) (by kernel_rfl) (by kernel_rfl) (fun _ _ _ h => h) (Or.inl ⟨by rfl, ?_⟩) (by assumption) ?_
    rotate_left
    · (intro w hSw); (try dsimp only at hSw); go_simp; (try with_reducible rfl)
    try simp only [Act.put, List.getElem_toArray, List.getElem_cons_succ, List.getElem_cons_zero, List.setIfInBounds_toArray, List.set_cons_zero, List.set_cons_succ]
    refine wpAnyH_take (i := 9) (v := ?_) rfl (by kernel_rfl) (by kernel_rfl) (by kernel_rfl) (fun _ _ _ h => h) (Or.inl ⟨by rfl, ?_⟩) (by assumption) ?_
    rotate_left
    · (intro w hSw); (try dsimp only at hSw); go_simp; (try with_reducible rfl)
    try simp only [Act.put, List.getElem_toArray, List.getElem_cons_succ, List.getElem_cons_zero, List.setIfInBounds_toArray, List.set_cons_zero, List.set_cons_succ]
    refine wpAnyH_take (i := 10) (v := ?_) rfl (by kernel_rfl) (by kernel_rfl) (by kernel_rfl) (fun _ _ _ h => h) (Or.inl ⟨by rfl, ?_⟩) (by assumption) ?_
    rotate_left
    · (intro w hSw); (try dsimp only at hSw); go_simp; (try with_reducible rfl)
    try simp only [Act.put, List.getElem_toArray, List.getElem_cons_succ, List.getElem_cons_zero, List.setIfInBounds_toArray, List.set_cons_zero, List.set_cons_succ]
    refine wpAnyH_take (i := 11) (v := ?_) rfl (by kernel_rfl) (by kernel_rfl) (by kernel_rfl) (fun _ _ _ h => h) (Or.inl ⟨by rfl, ?_⟩) (by assumption) ?_
    rotate_left
    · (intro w hSw); (try dsimp only at hSw); go_simp; (try with_reducible rfl)
    try simp only [Act.put, List.getElem_toArray, List.getElem_cons_succ, List.getElem_cons_zero, List.setIfInBounds_toArray, List.set_cons_zero, List.set_cons_succ]
    refine wpAnyH_take (i := 12) (v := ?_) rfl (by kernel_rfl) (by kernel_rfl) (by kernel_rfl) (fun _ _ _ h => h) (Or.inl ⟨by rfl, ?_⟩) (by assumption) ?_
    rotate_left
    · (intro w hSw); (try dsimp only at hSw); go_simp; (try with_reducible rfl)
    try simp only [Act.put, List.getElem_toArray, List.getElem_cons_succ, List.getElem_cons_zero, List.setIfInBounds_toArray, List.set_cons_zero, List.set_cons_succ]
    refine wpAnyH_take (i := 13) (v := ?_) rfl (by kernel_rfl) (by kernel_rfl) (by kernel_rfl) (fun _ _ _ h => h) (Or.inl ⟨by rfl, ?_⟩) (by assumption) ?_
    rotate_left
    · (intro w hSw); (try dsimp only at hSw); go_simp; (try with_reducible rfl)
    try simp only [Act.put, List.getElem_toArray, List.getElem_cons_succ, List.getElem_cons_zero, List.setIfInBounds_toArray, List.set_cons_zero, List.set_cons_succ]
    refine wpAnyH_take (i := 14) (v := ?_) rfl (by kernel_rfl) (by kernel_rfl) (by kernel_rfl) (fun _ _ _ h => h) (Or.inl ⟨by rfl, ?_⟩) (by assumption) ?_
    rotate_left
    · (intro w hSw); (try dsimp only at hSw); go_simp; (try with_reducible rfl)
    try simp only [Act.put, List.getElem_toArray, List.getElem_cons_succ, List.getElem_cons_zero, List.setIfInBounds_toArray, List.set_cons_zero, List.set_cons_succ]
    refine wpAnyH_take (i := 15) (v := ?_) rfl (by kernel_rfl) (by kernel_rfl) (by kernel_rfl) (fun _ _ _ h => h) (Or.inl ⟨by rfl, ?_⟩) (by assumption) ?_
    rotate_left
    · (intro w hSw); (try dsimp only at hSw); go_simp; (try with_reducible rfl)
    try simp only [Act.put, List.getElem_toArray, List.getElem_cons_succ, List.getElem_cons_zero, List.setIfInBounds_toArray, List.set_cons_zero, List.set_cons_succ]
    refine wpAnyH_take (i := 16) (v := ?_) rfl (by kernel_rfl) (by kernel_rfl) (by kernel_rfl) (fun _ _ _ h => h) (Or.inl ⟨by rfl, ?_⟩) (by assumption) ?_
    rotate_left
    · (intro w hSw); (try dsimp only at hSw); go_simp; (try with_reducible rfl)
    try simp only [Act.put, List.getElem_toArray, List.getElem_cons_succ, List.getElem_cons_zero, List.setIfInBounds_toArray, List.set_cons_zero, List.set_cons_succ]
    refine wpAnyH_take (i := 17) (v := ?_) rfl (by kernel_rfl) (by kernel_rfl) (by kernel_rfl) (fun _ _ _ h => h) (Or.inl ⟨by rfl, ?_⟩) (by assumption) ?_
    rotate_left
    · (intro w hSw); (try dsimp only at hSw); go_simp; (try with_reducible rfl)
    try simp only [Act.put, List.getElem_toArray, List.getElem_cons_succ, List.getElem_cons_zero, List.setIfInBounds_toArray, List.set_cons_zero, List.set_cons_succ]
    refine wpAnyH_ready (rs := [18]) (by kernel_rfl) (by simp) (AllReadyH.cons rfl (fun K hK => ?_) AllReadyH.nil)
    go_simp
    with_reducible refine cs.mono ?_
    rintro e wS ⟨A3, c3, rfl, ho3, hb3, hs3⟩
    have bS := bd.trans (hb3.mono bd.size)
    have ce := EQ.out wS A3 c3 bS ho3 hs3
    refine hK.out _ _ (S4.out _ bS) (fun hHeld => ?_)
    clear hK K
    try simp only [Act.put, List.getElem_toArray, List.getElem_cons_succ, List.getElem_cons_zero, List.setIfInBounds_toArray, List.set_cons_zero, List.set_cons_succ]
    refine wpAnyH_ready (rs := [19]) (by kernel_rfl) (by simp) (AllReadyH.cons rfl (fun K hK => ?_) AllReadyH.nil)
    go_simp
    with_reducible refine ce.mono ?_
    rintro e wE ⟨rfl, rfl⟩
    refine hK.out _ _ hHeld (fun hHeld => ?_)
    clear hK K ce
    try simp only [Act.put, List.getElem_toArray, List.getElem_cons_succ, List.getElem_cons_zero, List.setIfInBounds_toArray, List.set_cons_zero, List.set_cons_succ]
    refine wpAnyH_take (i := 20) (v := ?_) rfl (by kernel_rfl) (by kernel_rfl) (by kernel_rfl) (fun _ _ _ h => h) (Or.inl ⟨by rfl, ?_⟩) (by assumption) ?_
    rotate_left
    · (intro w hSw); (try dsimp only at hSw); go_simp; (try with_reducible rfl)
    try simp only [Act.put, List.getElem_toArray, List.getElem_cons_succ, List.getElem_cons_zero, List.setIfInBounds_toArray, List.set_cons_zero, List.set_cons_succ]
    have k1 := KZ.out _ bS
    have st_ := store_head_all k1.1 rfl ⟨st, ba, ck, ar⟩
    have KF := Lib.hid (row_blk k1.1 (headV ⟨st, ba, ck, ar⟩))
    have BF := Lib.hid (k1.2.trans ((only_row wS w.heap.size (headV ⟨st, ba, ck, ar⟩)).below k1.2.size fun q h => by rw [h]; exact Nat.le_refl _))
    have SF := Cells4.of ((kx.below bS hgw).only (only_row wS w.heap.size (headV ⟨st, ba, ck, ar⟩)) hne)
    refine wpAnyH_ready (rs := [21]) (by kernel_rfl) (by simp) (AllReadyH.cons rfl (fun K hK => ?_) AllReadyH.nil)
    refine step_store_run (by rfl) 79 (.tmp 2) (.tmp 19) _ _ (by rfl) (by rfl) (by rfl) st_ ?_
    refine hK.out _ _ SF (fun hHeld => ?_)
    clear hK K
    try simp only [Act.put, List.getElem_toArray, List.getElem_cons_succ, List.getElem_cons_zero, List.setIfInBounds_toArray, List.set_cons_zero, List.set_cons_succ]
    refine wpAnyH_take (i := 22) (v := ?_) rfl (by kernel_rfl) (by kernel_rfl) (by kernel_rfl) (fun _ _ _ h => h) (Or.inl ⟨by rfl, ?_⟩) (by assumption) ?_
    rotate_left
    · (intro w hSw); (try dsimp only at hSw); go_simp; (try with_reducible rfl)
    try simp only [Act.put, List.getElem_toArray, List.getElem_cons_succ, List.getElem_cons_zero, List.setIfInBounds_toArray, List.set_cons_zero, List.set_cons_succ]
    refine wpAnyH_done (by kernel_rfl) ?_ _
    refine NoPanic.normal ?_
    go_wp2
    refine bodyPost_ret (results_ct rfl _ _ w.heap.size _ rfl (head_whole KF.out)) rfl ?_
    exact ⟨by rw [HE.out]; rfl, BF.out⟩
end Go.Proofs.YtkganajbilnanaaGreat
