/- Whether transactions, pages of a table are alike; Same's parts. Conditions: none. -/
import Derived.Test.YthbaoljghofkoaaRecS
import Derived.Laws.StructEq
import Derived.StillTailTactics
namespace Go.Proofs.Ythbaoljghofkoaa
open Go.ChangeShapes Go.WideShapes Go.ChangeAt Go.RowKit
open NumMath
set_option linter.unusedVariables false
set_option linter.unusedSimpArgs false
set_option maxRecDepth 20000

theorem wpStill_load_run {P : Program} {w : World} {ops : Array Oper} {rest : List Oper} {o : Oper} {a : Act} {Q : Act → Prop} (hgd : o.guard = none) (t : TypeId) (x : Operand) (X v : Value) (ho : o.op = .load t x) (hx : a.eval x = X)
    (hr : (Instr.loadAt t X).run P w = .ok v w) (h : wpStill P ops w Q rest (a.put o.dst v)) : wpStill P ops w Q (o :: rest) a :=
  wpStill_step fun K hK => by
    have e : Region.wanted o (yielded ops a.tmps) = true := by unfold Region.wanted; rw [hgd]
    rw [if_pos e]
    unfold Oper.still execOp
    simp only [ho, hx, Sem.run_bind, hr, Result.andThen_ok]
    exact ⟨rfl, hK _ h⟩
theorem eqInt (d : Nat) (w : World) (t : TypeId) (k : IntKind) (a b : Nat) (h : Try.prog.underlying t = some (.int k)) : (Op.equalIn (d + 1) t (.int k a) (.int k b)).run Try.prog w = .ok (decide (a = b)) w := by
  rw [run_equalIn_int w d t k k _ _ h]
  congr 1
  rw [Bool.eq_iff_iff, beq_iff_eq, decide_eq_true_iff]
  omega
theorem agg8 (w : World) : (isAgg 5).run Try.prog w = .ok false w := by kernel_rfl
theorem agg32 (w : World) : (isAgg 22).run Try.prog w = .ok false w := by kernel_rfl
theorem agg64 (w : World) : (isAgg 23).run Try.prog w = .ok false w := by kernel_rfl
theorem part_one {t : TypeId} (h : ∀ w, (isAgg t).run Try.prog w = .ok false w) (cs : Array Value) (off : Nat) (v : Value) (w : World) (hv : cs[off]? = some v) : (part t cs off).run Try.prog w = .ok v w := by
  simp only [part, Sem.run_bind, h, Result.andThen_ok, hv]
  simp
/-- one field more -/
theorem eq_step (d : Nat) (w : World) (xs ys : Array Value) (f : Field) (fs : List Field) (hn : f.name ≠ "_") (a b : Value) (r s : Bool) (ha : (part f.type xs f.offset).run Try.prog w = .ok a w) (hb : (part f.type ys f.offset).run Try.prog w = .ok b w)
    (he : (Op.equalIn d f.type a b).run Try.prog w = .ok r w) (hr : (Op.eqFields d xs ys fs).run Try.prog w = .ok s w) : (Op.eqFields d xs ys (f :: fs)).run Try.prog w = .ok (r && s) w := by
  simp only [Op.eqFields, hn, ne_eq, not_false_eq_true, if_true, Sem.run_bind, ha, hb, he, Result.andThen_ok]
  cases r
  · simp
  · simpa using hr
theorem eq_done (d : Nat) (w : World) (xs ys : Array Value) : (Op.eqFields d xs ys []).run Try.prog w = .ok true w := by simp [Op.eqFields]
theorem tx_fields : (Try.prog.fieldsOf 64).toList.map (fun f => (f.name, f.type, f.offset)) = [("Txn", 22, 0), ("Last", 23, 1), ("Undo", 23, 2), ("State", 5, 3)] := by kernel_rfl
theorem txT : Try.prog.underlying 64 = some (.struct (Try.prog.fieldsOf 64)) := by kernel_rfl
theorem txH : Try.prog.stoodInHeld 64 = false := by kernel_rfl
theorem tx_neq (w : World) (x y : TxP) : (binOp .neq 64 (.agg #[.int .u32 (x.txn : Nat), .int .u64 (x.last : Nat), .int .u64 (x.undo : Nat), .int .u8 (x.state : Nat)]) (.agg #[.int .u32 (y.txn : Nat), .int .u64 (y.last : Nat), .int .u64 (y.undo : Nat), .int .u8 (y.state : Nat)])).run Try.prog w =
    .ok (.bool (!decide (x.txn = y.txn ∧ x.last = y.last ∧ x.undo = y.undo ∧ x.state = y.state))) w := by
  obtain ⟨a1, a2, a3, a4⟩ := x
  obtain ⟨b1, b2, b3, b4⟩ := y
  rw [run_neq_struct]
  rw [run_equalIn_agg w 9999 _ _ _ txT txH]
  obtain ⟨fs, hfs⟩ : ∃ fs, (Try.prog.fieldsOf 64).toList = fs := ⟨_, rfl⟩
  have h := tx_fields
  rw [hfs] at h ⊢
  match fs, h with
  | [f1, f2, f3, f4], h =>
    simp only [List.map_cons, List.map_nil, List.cons.injEq, Prod.mk.injEq, and_true] at h
    obtain ⟨⟨n1, t1, o1⟩, ⟨n2, t2, o2⟩, ⟨n3, t3, o3⟩, ⟨n4, t4, o4⟩⟩ := h
    have h64 := fun a b => eqInt 9998 w 23 .u64 a b Try.underlying23
    have h32 := fun a b => eqInt 9998 w 22 .u32 a b Try.underlying22
    have h8 := fun a b => eqInt 9998 w 5 .u8 a b Try.underlying5
    have e4 := eq_step 9999 w _ _ f4 [] (by rw [n4]; decide) _ _ _ true (by rw [t4, o4]; exact part_one agg8 _ _ _ w rfl) (by rw [t4, o4]; exact part_one agg8 _ _ _ w rfl) (by rw [t4]; exact h8 a4 b4) (eq_done _ _ #[.int .u32 a1, .int .u64 a2, .int .u64 a3, .int .u8 a4] #[.int .u32 b1, .int .u64 b2, .int .u64 b3, .int .u8 b4])
    have e3 := eq_step 9999 w _ _ f3 _ (by rw [n3]; decide) _ _ _ _ (by rw [t3, o3]; exact part_one agg64 _ _ _ w rfl) (by rw [t3, o3]; exact part_one agg64 _ _ _ w rfl) (by rw [t3]; exact h64 a3 b3) e4
    have e2 := eq_step 9999 w _ _ f2 _ (by rw [n2]; decide) _ _ _ _ (by rw [t2, o2]; exact part_one agg64 _ _ _ w rfl) (by rw [t2, o2]; exact part_one agg64 _ _ _ w rfl) (by rw [t2]; exact h64 a2 b2) e3
    have e1 := eq_step 9999 w _ _ f1 _ (by rw [n1]; decide) _ _ _ _ (by rw [t1, o1]; exact part_one agg32 _ _ _ w rfl) (by rw [t1, o1]; exact part_one agg32 _ _ _ w rfl) (by rw [t1]; exact h32 a1 b1) e2
    rw [e1]
    simp
theorem dir_fields : (Try.prog.fieldsOf 66).toList.map (fun f => (f.name, f.type, f.offset)) = [("Page", 22, 0), ("First", 23, 1)] := by kernel_rfl
theorem dirT : Try.prog.underlying 66 = some (.struct (Try.prog.fieldsOf 66)) := by kernel_rfl
theorem dirH : Try.prog.stoodInHeld 66 = false := by kernel_rfl
theorem dir_neq (w : World) (x y : DirP) : (binOp .neq 66 (.agg #[.int .u32 (x.page : Nat), .int .u64 (x.first : Nat)]) (.agg #[.int .u32 (y.page : Nat), .int .u64 (y.first : Nat)])).run Try.prog w =
    .ok (.bool (!decide (x.page = y.page ∧ x.first = y.first))) w := by
  obtain ⟨a1, a2⟩ := x
  obtain ⟨b1, b2⟩ := y
  rw [run_neq_struct]
  rw [run_equalIn_agg w 9999 _ _ _ dirT dirH]
  obtain ⟨fs, hfs⟩ : ∃ fs, (Try.prog.fieldsOf 66).toList = fs := ⟨_, rfl⟩
  have h := dir_fields
  rw [hfs] at h ⊢
  match fs, h with
  | [f1, f2], h =>
    simp only [List.map_cons, List.map_nil, List.cons.injEq, Prod.mk.injEq, and_true] at h
    obtain ⟨⟨n1, t1, o1⟩, ⟨n2, t2, o2⟩⟩ := h
    have h64 := fun a b => eqInt 9998 w 23 .u64 a b Try.underlying23
    have h32 := fun a b => eqInt 9998 w 22 .u32 a b Try.underlying22
    have e2 := eq_step 9999 w _ _ f2 [] (by rw [n2]; decide) _ _ _ true (by rw [t2, o2]; exact part_one agg64 _ _ _ w rfl) (by rw [t2, o2]; exact part_one agg64 _ _ _ w rfl) (by rw [t2]; exact h64 a2 b2) (eq_done _ _ #[.int .u32 a1, .int .u64 a2] #[.int .u32 b1, .int .u64 b2])
    have e1 := eq_step 9999 w _ _ f1 _ (by rw [n1]; decide) _ _ _ _ (by rw [t1, o1]; exact part_one agg32 _ _ _ w rfl) (by rw [t1, o1]; exact part_one agg32 _ _ _ w rfl) (by rw [t1]; exact h32 a1 b1) e2
    rw [e1]
    simp
end Go.Proofs.Ythbaoljghofkoaa
