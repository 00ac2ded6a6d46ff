/- rec: mayChange. Conditions: none. -/
import Derived.Test.YthbaoljghofkoaaRecE
import Derived.Test.YthbaoljghofkoaaStore
namespace Go.Proofs.Ythbaoljghofkoaa
open Go.ChangeShapes Go.WideShapes Go.ChangeAt Go.RowKit
open NumMath
set_option linter.unusedVariables false
set_option linter.unusedSimpArgs false
set_option maxRecDepth 20000

theorem size_rec : (Try.prog.info? 31).map (·.size) = some 12 := by kernel_rfl
theorem size_chg : (Try.prog.info? 27).map (·.size) = some 6 := by kernel_rfl
theorem load_rec {w : World} {g : Nat} {r : RecP} {m : RecMm} (h : Blk w g 31 (recA r m)) : (Instr.loadAt 31 (.pointer (some ⟨g, 0, none⟩))).run Try.prog w = .ok (.agg (recA r m)) w :=
  run_load_blk h 0 31 (recA r m).toList _ (fun j v hv => by rw [Nat.zero_add]; simpa using hv) Try.underlying31 rfl size_rec
theorem load_chg {w : World} {g : Nat} {r : RecP} {m : RecMm} (h : Blk w g 31 (recA r m)) : (Instr.loadAt 27 (.pointer (some ⟨g, 4, none⟩))).run Try.prog w = .ok (.agg (chgV r.chg m.cm)) w :=
  run_load_blk h 4 27 (chgV r.chg m.cm).toList _ (fun j v hv => by
    match j with
    | 0 => exact hv
    | 1 => exact hv
    | 2 => exact hv
    | 3 => exact hv
    | 4 => exact hv
    | 5 => exact hv
    | j + 6 => cases hv) Try.underlying27 rfl size_chg
def chgZ : Array Value := #[.int .u32 0, .int .u16 0, .bool false, .bool false, .slice none 0 0, .slice none 0 0]
theorem store_chg (w : World) (c : ChgP) (m : ChgM) : (Instr.storeAt 27 (.pointer (some ⟨w.heap.size, 0, none⟩)) (.agg (chgV c m))).run Try.prog (w.alloc (.cells #[.int .u32 0, .int .u16 0, .bool false, .bool false, .slice none 0 0, .slice none 0 0] 27)) = .ok () (w.alloc (.cells (chgV c m) 27)) :=
  run_storeAt_new w 27 _ (chgV c m) size_chg rfl (by simp [chgV, Value.oneCell'])
/-- a boxed change's cells -/
structure ChgBox (w : World) (g : Nat) (c : ChgP) (m : ChgM) : Prop where
  k0 : w.cell? ⟨g, 0, none⟩ = some (.int .u32 (c.page : Nat))
  k1 : w.cell? ⟨g, 1, none⟩ = some (.int .u16 (c.slot : Nat))
  k2 : w.cell? ⟨g, 2, none⟩ = some (.bool c.had)
  k3 : w.cell? ⟨g, 3, none⟩ = some (.bool c.has)
  k4 : w.cell? ⟨g, 4, none⟩ = some (.slice m.A1 c.before.length m.c1)
  k5 : w.cell? ⟨g, 5, none⟩ = some (.slice m.A2 c.after.length m.c2)
theorem ChgBox.of {w : World} {g : Nat} {c : ChgP} {m : ChgM} (h : Blk w g 27 (chgV c m)) : ChgBox w g c m := ⟨h.cell 0, h.cell 1, h.cell 2, h.cell 3, h.cell 4, h.cell 5⟩
def okC' (nb na : Nat) (had has ch : Bool) (pg sl : Nat) : Bool :=
  decide (nb ≤ 64) && decide (na ≤ 64) && (had || decide (nb = 0)) && (has || decide (na = 0)) && (ch || (pg == 0 && sl == 0 && !had && !has))
theorem okC_eq (r : RecP) : okC r = okC' r.chg.before.length r.chg.after.length r.chg.had r.chg.has (chgs r.kind) r.chg.page r.chg.slot := rfl
set_option maxHeartbeats 4000000 in
theorem mayChange_any (r : RecP) (m : RecMm) (w : World) :
    Calls Try.prog 39 #[.agg (recA r m)] w fun e w' => e = .returned (.bool (okC r)) ∧ Below w.heap.size w w' := by
  have kb := Blk.new w 31 (recA r m)
  have hb := below_alloc w (.cells (recA r m) 31)
  have hO := okC_eq r
  go_enter Try.func39, Try.ntmps39
  go_upto_region 1 with fail
  generalize World.alloc w _ = w1 at *
  have ld := load_chg kb
  have st := store_chg w1 r.chg m.cm
  have kb2 := kb.alloc (.cells (chgV r.chg m.cm) 27)
  have kc := ChgBox.of (Blk.new w1 27 (chgV r.chg m.cm))
  have hb2 := hb.alloc hb.size (.cells (chgV r.chg m.cm) 27)
  have ld2 := load_rec kb2
  have cc := changes_any r m (w1.alloc (.cells (chgV r.chg m.cm) 27))
  have HB := Lib.hid hb2
  have HO := Lib.hid hO
  have hlt0 := (Blk.new w1 27 (chgV r.chg m.cm)).lt
  clear kb hb kb2 hb2 hO
  go_upto_region 2 with (first | (refine wpList_load_run rfl 27 (.tmp 4) _ _ rfl rfl ld ?_; clear ld) | (refine wpList_store_run rfl 27 (.tmp 3) (.tmp 5) _ _ rfl rfl rfl st ?_; clear st))
  generalize World.alloc w1 _ = w2 at *
  obtain ⟨q0, q1, q2, q3, q4, q5⟩ := kc
  have FIN : ∀ w', Below w2.heap.size w2 w' → Below w.heap.size w w' := fun w' h => HB.out.trans (h.mono HB.out.size)
  have HFIN := Lib.hid FIN
  have hlt : w1.heap.size < w2.heap.size := hlt0
  have hcc : Hid (∀ W, Below w2.heap.size w2 W → ∀ o, W.cell? ⟨w1.heap.size, o, none⟩ = w2.cell? ⟨w1.heap.size, o, none⟩) := Lib.hid fun W h o => h.cell (p := ⟨w1.heap.size, o, none⟩) hlt
  clear FIN hlt hlt0
  generalize hnb : r.chg.before.length = nb at *
  generalize hna : r.chg.after.length = na at *
  generalize hhad : r.chg.had = had at *
  generalize hhas : r.chg.has = has at *
  generalize hpg : r.chg.page = pg at *
  generalize hsl : r.chg.slot = sl at *
  clear hnb hna hhad hhas hpg hsl
  rcases Nat.lt_or_ge 64 nb with z | z
  · have t1 : decide ((64 : Int) < (nb : Int)) = true := by rw [decide_eq_true_iff]; omega
    have HE : Hid (okC r = false) := Lib.hid (by rw [HO.out]; unfold okC'; simp; omega)
    clear z ld2 cc
    go_wp2
    go_ret
    exact ⟨by rw [HE.out]; rfl, HB.out⟩
  have t1 : decide ((64 : Int) < (nb : Int)) = false := by rw [decide_eq_false_iff_not]; omega
  rcases Nat.lt_or_ge 64 na with z2 | z2
  · have t2 : decide ((64 : Int) < (na : Int)) = true := by rw [decide_eq_true_iff]; omega
    have HE : Hid (okC r = false) := Lib.hid (by rw [HO.out]; unfold okC'; simp; omega)
    clear z z2 ld2 cc
    go_wp2
    go_ret
    exact ⟨by rw [HE.out]; rfl, HB.out⟩
  have t2 : decide ((64 : Int) < (na : Int)) = false := by rw [decide_eq_false_iff_not]; omega
  by_cases b1 : had = false ∧ 0 < nb
  · obtain ⟨rfl, b2⟩ := b1
    have HE : Hid (okC r = false) := Lib.hid (by rw [HO.out]; unfold okC'; simp; omega)
    clear z z2 ld2 cc
    go_wp2
    go_ret
    exact ⟨by rw [HE.out]; rfl, HB.out⟩
  by_cases b3 : has = false ∧ 0 < na
  · obtain ⟨rfl, b4⟩ := b3
    have HE : Hid (okC r = false) := Lib.hid (by rw [HO.out]; unfold okC'; simp; omega)
    have hor : had = true ∨ (had = false ∧ nb = 0) := by cases had <;> simp_all
    clear z z2 ld2 cc b1
    rcases hor with rfl | ⟨rfl, rfl⟩
    all_goals
      go_wp2
      go_ret
      exact ⟨by rw [HE.out]; rfl, HB.out⟩
  have hor : had = true ∨ (had = false ∧ nb = 0) := by cases had <;> simp_all
  have hor2 : has = true ∨ (has = false ∧ na = 0) := by cases has <;> simp_all
  have HE : Hid (okC r = (chgs r.kind || (pg == 0 && sl == 0 && !had && !has))) := Lib.hid (by
    rw [HO.out]
    unfold okC'
    have e1 : decide (nb ≤ 64) = true := decide_eq_true z
    have e2 : decide (na ≤ 64) = true := decide_eq_true z2
    rw [e1, e2]
    rcases hor with rfl | ⟨rfl, rfl⟩ <;> rcases hor2 with rfl | ⟨rfl, rfl⟩ <;> simp)
  clear z z2 b1 b3
  rcases hor with rfl | ⟨rfl, rfl⟩ <;> rcases hor2 with rfl | ⟨rfl, rfl⟩
  all_goals
    generalize chgs r.kind = ch at *
    cases ch
    · by_cases p0 : pg = 0
      · subst p0
        by_cases s0 : sl = 0
        · subst s0
          go_wp2_with (first | (refine wpList_load_run rfl 31 (.tmp 1) _ _ rfl rfl ld2 ?_; clear ld2))
          refine cc.mono ?_
          rintro e w3 ⟨rfl, b3⟩
          clear cc
          have r0 := (hcc.out w3 b3 0).trans q0
          have r1 := (hcc.out w3 b3 1).trans q1
          have r2 := (hcc.out w3 b3 2).trans q2
          have r3 := (hcc.out w3 b3 3).trans q3
          have B3 := Lib.hid (HFIN.out _ b3)
          clear q0 q1 q2 q3 q4 q5 b3
          go_wp2
          go_ret
          exact ⟨by rw [HE.out]; rfl, B3.out⟩
        · have y1 : ((sl : Int) == 0) = false := by rw [beq_eq_false_iff_ne]; omega
          have HE2 : Hid (okC r = false) := Lib.hid (by rw [HE.out]; simp [s0])
          clear s0
          go_wp2_with (first | (refine wpList_load_run rfl 31 (.tmp 1) _ _ rfl rfl ld2 ?_; clear ld2))
          refine cc.mono ?_
          rintro e w3 ⟨rfl, b3⟩
          clear cc
          have r0 := (hcc.out w3 b3 0).trans q0
          have r1 := (hcc.out w3 b3 1).trans q1
          have r2 := (hcc.out w3 b3 2).trans q2
          have r3 := (hcc.out w3 b3 3).trans q3
          have B3 := Lib.hid (HFIN.out _ b3)
          clear q0 q1 q2 q3 q4 q5 b3
          go_wp2
          go_ret
          exact ⟨by rw [HE2.out]; rfl, B3.out⟩
      · have y1 : ((pg : Int) == 0) = false := by rw [beq_eq_false_iff_ne]; omega
        have HE2 : Hid (okC r = false) := Lib.hid (by rw [HE.out]; simp [p0])
        clear p0
        go_wp2_with (first | (refine wpList_load_run rfl 31 (.tmp 1) _ _ rfl rfl ld2 ?_; clear ld2))
        refine cc.mono ?_
        rintro e w3 ⟨rfl, b3⟩
        clear cc
        have r0 := (hcc.out w3 b3 0).trans q0
        have r1 := (hcc.out w3 b3 1).trans q1
        have r2 := (hcc.out w3 b3 2).trans q2
        have r3 := (hcc.out w3 b3 3).trans q3
        have B3 := Lib.hid (HFIN.out _ b3)
        clear q0 q1 q2 q3 q4 q5 b3
        go_wp2
        go_ret
        exact ⟨by rw [HE2.out]; rfl, B3.out⟩
    · have HE2 : Hid (okC r = true) := Lib.hid (by rw [HE.out]; rfl)
      go_wp2_with (first | (refine wpList_load_run rfl 31 (.tmp 1) _ _ rfl rfl ld2 ?_; clear ld2))
      refine cc.mono ?_
      rintro e w3 ⟨rfl, b3⟩
      clear cc
      have r0 := (hcc.out w3 b3 0).trans q0
      have r1 := (hcc.out w3 b3 1).trans q1
      have r2 := (hcc.out w3 b3 2).trans q2
      have r3 := (hcc.out w3 b3 3).trans q3
      have B3 := Lib.hid (HFIN.out _ b3)
      clear q0 q1 q2 q3 q4 q5 b3
      go_wp2
      go_ret
      exact ⟨by rw [HE2.out]; rfl, B3.out⟩
end Go.Proofs.Ythbaoljghofkoaa
