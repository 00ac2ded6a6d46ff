/- page: Read. Conditions: the bytes lie there. -/
import Derived.Test.YtkknfccfgmflmaaPgSndM
import Derived.Laws.Cover3
import Derived.Laws.StructEq
import Derived.Laws.Cells
import Derived.Laws.Tables
import Derived.ChangeKeysEq
namespace Go.Proofs.Ytkknfccfgmflmaa
open Go.ChangeShapes Go.WideShapes Go.ChangeAt Go.RowKit
open NumMath
set_option linter.unusedVariables false
set_option linter.unusedSimpArgs false
set_option maxRecDepth 20000

def arr (f : Nat → Nat) : Array Value := ((pgL f).map byteV).toArray
theorem arr_size (f : Nat → Nat) : (arr f).size = 448 := by simp [arr, pgL_length]
theorem run_arr (w : World) (b o n c : Nat) (hn : 448 ≤ n) : (Instr.arrayAt 65 (.slice (some ⟨b, o, none⟩) n c)).run Try.prog w = .ok (.pointer (some ⟨b, o, none⟩)) w :=
  run_arrayAt w 65 _ 448 _ n c Try.underlying65 hn
theorem agg448 (w : World) : (isAgg 65).run Try.prog w = .ok true w := by kernel_rfl
theorem size448 (w : World) : (sizeOf 65).run Try.prog w = .ok 448 w := by kernel_rfl
theorem run_load448 (w : World) (b o : Nat) (f : Nat → Nat) (h : ∀ j, j < 448 → w.cell? ⟨b, o + j, none⟩ = some (byteV (f j))) :
    (Instr.loadAt 65 (.pointer (some ⟨b, o, none⟩))).run Try.prog w = .ok (.agg (arr f)) w := by
  have hl := run_loadCells (P := Try.prog) w ⟨b, o, none⟩ 448 (fun j => byteV (f j)) (fun j hj => by
    rw [show (⟨b, o, none⟩ : Addr).add j = ⟨b, o + j, none⟩ by
      unfold Addr.add
      split
      · subst_vars; rfl
      · rfl]
    exact h j hj)
  have ha : arr f = ((List.range 448).map fun j => byteV (f j)).toArray := by simp [arr, pgL]
  rw [ha]
  simp [Instr.loadAt, Instr.sureAddr, loadVar, agg448, size448, hl]
theorem built65 : Try.prog.built 65 [] = some (arr zeroF) := by kernel_rfl
theorem run_zero448 (w : World) : (Instr.build 65 #[]).run Try.prog w = .ok (.agg (arr zeroF)) w := run_build w _ _ _ built65
theorem fill_all (l : List Value) (k : Nat) (z : Array Value) (h : k + l.length ≤ z.size) : (List.foldl (fun (cs : Array Value) (p : Value × Nat) => cs.setIfInBounds (0 + p.2) p.1) z (l.zipIdx k)).toList = z.toList.take k ++ l ++ z.toList.drop (k + l.length) := by
  induction l generalizing k z with
  | nil => simp
  | cons x l ih =>
    rw [List.length_cons] at h
    have hk : k < z.toList.length := by rw [Array.length_toList]; omega
    rw [List.zipIdx_cons, List.foldl_cons, ih (k + 1) _ (by simp; omega)]
    simp only [Nat.zero_add, Array.toList_setIfInBounds, List.length_cons]
    rw [List.take_succ_eq_append_getElem (by rw [List.length_set]; exact hk), List.getElem_set_self, List.take_set_of_le (Nat.le_refl k), List.drop_set_of_lt (by omega)]
    simp [Nat.add_assoc, Nat.add_comm 1]
theorem fill_one (place : Nat → Option (Nat × Nat)) (z a : Array Value) (hp : place 0 = some (0, 448)) (h1 : a.size = 448) (h2 : z.size = 448) : Instr.fill place z [(0, .agg a)] = some a := by
  have key := fill_all a.toList 0 z (by rw [Array.length_toList]; omega)
  unfold Instr.fill
  have e : (Value.agg a).cells = a := rfl
  simp only [hp, e]
  have e2 : Array.foldl (fun (cs : Array Value) (x : Value × Nat) => cs.setIfInBounds (0 + x.2) x.1) z a.zipIdx = a := by
    apply Array.ext'
    rw [← Array.foldl_toList, Array.toList_zipIdx, key, List.take_zero, List.drop_eq_nil_of_le (by rw [Array.length_toList, Array.length_toList]; omega)]
    simp
  simp only [e2]
  simp [Instr.fill, h1, h2]
theorem fold_arr (z a : Array Value) (h1 : a.size = 448) (h2 : z.size = 448) : Array.foldl (fun (cs : Array Value) (x : Value × Nat) => cs.setIfInBounds x.2 x.1) z a.zipIdx 0 448 = a := by
  have key := fill_all a.toList 0 z (by rw [Array.length_toList]; omega)
  have e2 : Array.foldl (fun (cs : Array Value) (x : Value × Nat) => cs.setIfInBounds x.2 x.1) z a.zipIdx = a := by
    apply Array.ext'
    simp only [Nat.zero_add] at key
    rw [← Array.foldl_toList, Array.toList_zipIdx, key, List.take_zero, List.drop_eq_nil_of_le (by rw [Array.length_toList, Array.length_toList]; omega)]
    simp
  have e3 : a.zipIdx.size = 448 := by simp [h1]
  rw [e3] at e2
  exact e2
theorem pgT : Try.prog.underlying 67 = some (.struct (Try.prog.fieldsOf 67)) := by kernel_rfl
theorem pgPl : (Try.prog.fieldsOf 67).toList.mapM (fun f => (Try.prog.info? f.type).map fun i => (f.offset, i.size)) = some [(0, 448)] := by kernel_rfl
theorem pgZ : (Try.prog.info? 67).map (fun i => i.zero) = some (some (.agg (arr zeroF))) := by kernel_rfl
theorem built67 (f : Nat → Nat) : Try.prog.built 67 [(0, .agg (arr f))] = some (arr f) := by
  unfold Program.built
  have hz := pgZ
  cases hi : Try.prog.info? 67 with
  | none => rw [hi] at hz; cases hz
  | some it =>
    rw [hi] at hz
    simp only [Option.map_some, Option.some.injEq] at hz
    simp only [pgT, hz, pgPl]
    exact fill_one _ (arr zeroF) (arr f) rfl (arr_size f) (arr_size zeroF)
theorem run_build448 (w : World) (f : Nat → Nat) : (Instr.build 67 #[(0, .agg (arr f))]).run Try.prog w = .ok (.agg (arr f)) w := run_build w _ _ _ (built67 f)
theorem u8info : (Try.prog.info? 5).map (fun i => i.size) = some 1 := by kernel_rfl
theorem cells8 : Try.prog.cellsOf 5 = 1 := by kernel_rfl
theorem agg8 (w : World) : (isAgg 5).run Try.prog w = .ok false w := by kernel_rfl
theorem arr_at (f : Nat → Nat) (i : Nat) (h : i < 448) : (arr f)[i]? = some (byteV (f i)) := by
  simp [arr, pgL, List.getElem?_range, h]
theorem part8 (f : Nat → Nat) (i : Nat) (h : i < 448) (w : World) : (part 5 (arr f) (i * 1)).run Try.prog w = .ok (byteV (f i)) w := by
  rw [Nat.mul_one]
  simp only [part, Sem.run_bind, agg8, Result.andThen_ok, arr_at f i h]
  simp
theorem run_items (d : Nat) (f g : Nat → Nat) (w : World) : ∀ is : List Nat, (∀ i ∈ is, i < 448) → (Op.eqItems (d + 1) 5 1 (arr f) (arr g) is).run Try.prog w = .ok (is.all fun i => f i == g i) w
  | [], _ => by simp [Op.eqItems]
  | i :: is, h => by
    have hi := h i (List.mem_cons_self ..)
    have ih := run_items d f g w is fun j hj => h j (List.mem_cons_of_mem _ hj)
    have he := run_equalIn_int (P := Try.prog) w d 5 .u8 .u8 (f i : Nat) (g i : Nat) Try.underlying5
    simp only [Op.eqItems, Sem.run_bind, part8 _ _ hi, Result.andThen_ok]
    unfold byteV
    rw [he]
    rw [show (((f i : Nat) : Int) == ((g i : Nat) : Int)) = (f i == g i) by rw [Bool.eq_iff_iff, beq_iff_eq, beq_iff_eq]; omega]
    simp only [Result.andThen_ok, List.all_cons]
    cases f i == g i
    · simp
    · simpa using ih
/-- two pages' bytes are the same -/
def sameB (f g : Nat → Nat) : Bool := (List.range 448).all fun i => f i == g i
theorem run_eqIn448 (w : World) (f g : Nat → Nat) : (Op.equalIn 10000 65 (.agg (arr f)) (.agg (arr g))).run Try.prog w = .ok (sameB f g) w := by
  have hu := u8info
  cases hi : Try.prog.info? 5 with
  | none => rw [hi] at hu; cases hu
  | some i =>
    rw [run_equalIn_array (P := Try.prog) w 9999 (arr f) (arr g) Try.underlying65 hi, cells8, run_items 9998 f g w (List.range 448) (fun i hi => List.mem_range.1 hi)]
    rfl
theorem run_eq448 (w : World) (f g : Nat → Nat) : (binOp .eql 65 (.agg (arr f)) (.agg (arr g))).run Try.prog w = .ok (.bool (sameB f g)) w := by
  have hu := u8info
  cases hi : Try.prog.info? 5 with
  | none => rw [hi] at hu; cases hu
  | some i =>
    rw [run_eql_struct, run_equalIn_array (P := Try.prog) w 9999 (arr f) (arr g) Try.underlying65 hi, cells8, run_items 9998 f g w (List.range 448) (fun i hi => List.mem_range.1 hi)]
    rfl
theorem wp_load_run {P : Program} {w : World} {o : Oper} {a : Act} {K : Act → World → Prop} {Q : Exit → Act → World → Prop} (t : TypeId) (x : Operand) (X v : Value) (ho : o.op = .load t x) (hx : a.eval x = X)
    (hr : (Instr.loadAt t X).run P w = .ok v w) (h : K (a.put o.dst v) w) : o.wp P a w K Q := by
  unfold Oper.wp execOp
  simp only [ho, hx, Sem.run_bind, hr, Result.andThen_ok]
  exact h
theorem wp_build_run {P : Program} {w : World} {o : Oper} {a : Act} {K : Act → World → Prop} {Q : Exit → Act → World → Prop} (t : TypeId) (ps : Array (Nat × Operand)) (xs : Array (Nat × Value)) (v : Value) (ho : o.op = .build t ps) (hx : (ps.map fun (i, x) => (i, a.eval x)) = xs)
    (hr : (Instr.build t xs).run P w = .ok v w) (h : K (a.put o.dst v) w) : o.wp P a w K Q := by
  unfold Oper.wp execOp
  simp only [ho, hx, Sem.run_bind, hr, Result.andThen_ok]
  exact h
theorem wp_eql_run {P : Program} {w : World} {o : Oper} {a : Act} {K : Act → World → Prop} {Q : Exit → Act → World → Prop} (t T : TypeId) (x y : Operand) (X Y : Array Value) (v : Value) (ho : o.op = .binOp .eql t x y T) (hx : a.eval x = .agg X) (hy : a.eval y = .agg Y) (hg : P.eqGuardType P.depth t = false)
    (hr : (binOp .eql t (.agg X) (.agg Y)).run P w = .ok v w) (h : K (a.put o.dst v) w) : o.wp P a w K Q := by
  unfold Oper.wp execOp
  simp only [ho, hx, hy, Sem.run_bind, run_eqGuard_agg w .eql t x y X Y hg, hr, Result.andThen_ok]
  exact h
theorem guard448 : Try.prog.eqGuardType Try.prog.depth 65 = false := by kernel_rfl
/-- the bytes of a list -/
def fL (l : List Nat) : Nat → Nat := fun i => l[i]?.getD 0
theorem fL_small {l : List Nat} (h : Small l) (i : Nat) : fL l i < 256 := by
  unfold fL
  cases hi : l[i]? with
  | none => exact Nat.zero_lt_succ _
  | some x => exact h x (List.mem_of_getElem? hi)
/-- the bytes are a page's -/
def okRead (l : List Nat) : Prop := l.length = 448 ∧ (sameB (fL l) zeroF = true ∨ SoundP (fL l))
/-- the page that they are -/
def readF (l : List Nat) : Nat → Nat := if sameB (fL l) zeroF = true then newF 0 else fL l
def ReadPost (l : List Nat) (w : World) (e : Ending) (w' : World) : Prop :=
  Below w.heap.size w w' ∧ ((okRead l ∧ ∃ gp, e = .returned (.tuple #[.pointer (some ⟨gp, 0, none⟩), .int .u16 0]) ∧ PgAt w' gp (readF l) ∧ w.heap.size ≤ gp) ∨ (¬ okRead l ∧ e = .returned (.tuple #[.pointer none, .int .u16 90])))
set_option maxHeartbeats 4000000 in
theorem read_any (A : Option Addr) (c : Nat) (l : List Nat) (B : Nat) (w : World) (h : Bytes w B A l) (hB : B ≤ w.heap.size) (hn : l.length ≤ 1000000) :
    Calls Try.prog 26 #[.slice A l.length c] w (ReadPost l w) := by
  by_cases hl : l.length = 448
  · obtain ⟨b, o, rfl, -, -, -⟩ := h.at_ (k := 0) (by omega)
    have hsm := h.2
    have hcells : ∀ j, j < 448 → w.cell? ⟨b, o + j, none⟩ = some (byteV (fL l j)) := fun j hj => by
      obtain ⟨b', o', e', _, hc⟩ := h.1 j (by rw [List.length_map]; omega)
      injection e' with e'
      injection e' with e1 e2
      subst e1
      subst e2
      rw [hc]
      simp [fL, List.getElem?_eq_getElem (show j < l.length by omega)]
    have hat := run_arr w b o 448 c (Nat.le_refl _)
    have hld := run_load448 w b o (fL l) hcells
    have hbd := run_build448 w (fL l)
    have hbl : Blk (w.alloc (.cells (arr (fL l)) 67)) w.heap.size 67 (arr (fL l)) := Blk.new w _ _
    have hpg : PgAt (w.alloc (.cells (arr (fL l)) 67)) w.heap.size (fL l) := ⟨hbl, fL_small hsm⟩
    have hb1 : Below w.heap.size w (w.alloc (.cells (arr (fL l)) 67)) := (Below.refl _ _).alloc (Nat.le_refl _) _
    have hld2 := run_load448 (w.alloc (.cells (arr (fL l)) 67)) w.heap.size 0 (fL l) (fun j hj => by
      rw [Nat.zero_add, hbl.cell j, arr_at _ _ hj])
    have heq := run_eqIn448 (w.alloc (.cells (arr (fL l)) 67)) (fL l) zeroF
    have hz65 : Try.zeroCells65 = arr zeroF := by kernel_rfl
    rw [← hz65] at heq
    clear hz65
    have hsd := sound_any hpg
    have hOk : okRead l = (sameB (fL l) zeroF = true ∨ SoundP (fL l)) := by
      unfold okRead
      rw [hl]
      simp
    have HOK := Lib.hid hOk
    have HRF : Hid (readF l = if sameB (fL l) zeroF = true then newF 0 else fL l) := Lib.hid rfl
    have hnew := new_any 0 (by omega) (w.alloc (.cells (arr (fL l)) 67))
    rw [hl]
    clear hcells h hn hOk hsm hl
    have hsz := arr_size (fL l)
    have hzz : (Try.zeroCells67).size = 448 := by kernel_rfl
    have hfold := fold_arr Try.zeroCells67 (arr (fL l)) hsz hzz
    clear hbd
    generalize hsb : sameB (fL l) zeroF = sb at *
    clear hsb
    generalize arr (fL l) = X at *
    go_enter Try.func26, Try.ntmps26
    go_wp2_with fail
    refine wp_load_run 65 _ _ _ rfl rfl hld ?_
    clear hld
    go_wp2_with fail
    refine wp_load_run 65 _ _ _ rfl rfl hld2 ?_
    clear hld2
    cases sb
    · clear hnew
      go_wp2_with fail
      generalize World.alloc w _ = w0 at *
      refine hsd.mono ?_
      rintro e w1 ⟨⟨r, rfl, hr⟩, hb2⟩
      have hb3 := hb1.trans (hb2.mono hb1.size)
      have hpg2 := hpg.below hb2
      have hrf : readF l = fL l := HRF.out
      cases r
      · have FIN := Lib.hid (And.intro hb3 (show ¬ okRead l by
          rw [HOK.out]
          rintro (z | z)
          · cases z
          · exact absurd (hr.mpr z) (by simp)))
        clear hb1 hb2 hb3 hpg hpg2 hsd heq hr
        go_wp2
        go_ret2
        exact ⟨FIN.out.1, .inr ⟨FIN.out.2, rfl⟩⟩
      · have FIN := Lib.hid (And.intro hb3 (show okRead l by
          rw [HOK.out]
          exact .inr (hr.mp rfl)))
        clear hb1 hb2 hb3 hpg hsd heq hr
        go_wp2
        go_ret2
        exact ⟨FIN.out.1, .inl ⟨FIN.out.2, _, rfl, by rw [hrf]; exact hpg2, Nat.le_refl _⟩⟩
    · clear hsd
      go_wp2_with fail
      generalize World.alloc w _ = w0 at *
      refine hnew.mono ?_
      rintro e w1 ⟨rfl, hp2, hb2⟩
      have hb3 := hb1.trans (hb2.mono hb1.size)
      have hle := hb1.size
      have hrf : readF l = newF 0 := HRF.out
      rw [← hrf] at hp2
      have FIN := Lib.hid (And.intro hb3 (And.intro (show okRead l by rw [HOK.out]; exact .inl (by simp)) (And.intro hp2 hle)))
      clear hb1 hb2 hb3 hpg hp2 hle heq hnew
      go_wp2
      go_ret2
      exact ⟨FIN.out.1, .inl ⟨FIN.out.2.1, _, rfl, FIN.out.2.2.1, FIN.out.2.2.2⟩⟩
  · have t1 : ((l.length : Int) != 448) = true := by rw [bne_iff_ne]; omega
    have NO : Hid (¬ okRead l) := Lib.hid fun z => hl z.1
    generalize l.length = n at *
    clear hl
    go_enter Try.func26, Try.ntmps26
    go_wp2
    go_ret2
    exact ⟨Below.refl _ _, .inr ⟨NO.out, rfl⟩⟩
end Go.Proofs.Ytkknfccfgmflmaa
