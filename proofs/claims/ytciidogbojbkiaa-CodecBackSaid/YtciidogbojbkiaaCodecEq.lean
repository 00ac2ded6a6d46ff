/- Whether operations, requests, replies are alike. Conditions: none. -/
import Derived.Test.YtciidogbojbkiaaCodecAsk
import Derived.Laws.StructEq
namespace Go.Proofs.Ytciidogbojbkiaa
open Go.ChangeShapes Go.WideShapes Go.ChangeAt Go.RowKit
open NumMath
set_option linter.unusedVariables false
set_option linter.unusedSimpArgs false
set_option maxRecDepth 20000

theorem ops_fields : (Try.prog.fieldsOf 25).toList.map (fun f => (f.name, f.type, f.offset)) = [("Kind", 5, 0), ("Who", 22, 1), ("Whom", 22, 2), ("What", 22, 3), ("ID", 22, 4), ("N", 23, 5), ("Price", 23, 6)] := by kernel_rfl
theorem opT : Try.prog.underlying 25 = some (.struct (Try.prog.fieldsOf 25)) := by kernel_rfl
theorem opH : Try.prog.stoodInHeld 25 = false := by kernel_rfl
theorem eqInt (d : Nat) (w : World) (t : TypeId) (k : IntKind) (a b : Nat) (h : Try.prog.underlying t = some (.int k)) : (Op.equalIn (d + 1) t (.int k a) (.int k b)).run Try.prog w = .ok (decide (a = b)) w := by
  rw [run_equalIn_int w d t k k _ _ h]
  congr 1
  rw [Bool.eq_iff_iff, beq_iff_eq, decide_eq_true_iff]
  omega
theorem agg8 (w : World) : (isAgg 5).run Try.prog w = .ok false w := by kernel_rfl
theorem agg16 (w : World) : (isAgg 32).run Try.prog w = .ok false w := by kernel_rfl
theorem agg32 (w : World) : (isAgg 22).run Try.prog w = .ok false w := by kernel_rfl
theorem agg64 (w : World) : (isAgg 23).run Try.prog w = .ok false w := by kernel_rfl
theorem aggOp (w : World) : (isAgg 25).run Try.prog w = .ok true w := by kernel_rfl
theorem sizeOp (w : World) : (sizeOf 25).run Try.prog w = .ok 7 w := by kernel_rfl
theorem part_one {t : TypeId} (h : ∀ w, (isAgg t).run Try.prog w = .ok false w) (cs : Array Value) (off : Nat) (v : Value) (w : World) (hv : cs[off]? = some v) : (part t cs off).run Try.prog w = .ok v w := by
  simp only [part, Sem.run_bind, h, Result.andThen_ok, hv]
  simp
/-- one field more -/
theorem eq_step (d : Nat) (w : World) (xs ys : Array Value) (f : Field) (fs : List Field) (hn : f.name ≠ "_") (a b : Value) (r s : Bool) (ha : (part f.type xs f.offset).run Try.prog w = .ok a w) (hb : (part f.type ys f.offset).run Try.prog w = .ok b w)
    (he : (Op.equalIn d f.type a b).run Try.prog w = .ok r w) (hr : (Op.eqFields d xs ys fs).run Try.prog w = .ok s w) : (Op.eqFields d xs ys (f :: fs)).run Try.prog w = .ok (r && s) w := by
  simp only [Op.eqFields, hn, ne_eq, not_false_eq_true, if_true, Sem.run_bind, ha, hb, he, Result.andThen_ok]
  cases r
  · simp
  · simpa using hr
theorem eq_done (d : Nat) (w : World) (xs ys : Array Value) : (Op.eqFields d xs ys []).run Try.prog w = .ok true w := by simp [Op.eqFields]
theorem op_test (d : Nat) (w : World) (a1 a2 a3 a4 a5 a6 a7 b1 b2 b3 b4 b5 b6 b7 : Nat) :
    (Op.equalIn (d + 2) 25 (.agg #[.int .u8 a1, .int .u32 a2, .int .u32 a3, .int .u32 a4, .int .u32 a5, .int .u64 a6, .int .u64 a7]) (.agg #[.int .u8 b1, .int .u32 b2, .int .u32 b3, .int .u32 b4, .int .u32 b5, .int .u64 b6, .int .u64 b7])).run Try.prog w =
      .ok (decide (a1 = b1 ∧ a2 = b2 ∧ a3 = b3 ∧ a4 = b4 ∧ a5 = b5 ∧ a6 = b6 ∧ a7 = b7)) w := by
  rw [run_equalIn_agg w (d + 1) _ _ _ opT opH]
  obtain ⟨fs, hfs⟩ : ∃ fs, (Try.prog.fieldsOf 25).toList = fs := ⟨_, rfl⟩
  have h := ops_fields
  rw [hfs] at h ⊢
  match fs, h with
  | [f1, f2, f3, f4, f5, f6, f7], h =>
    simp only [List.map_cons, List.map_nil, List.cons.injEq, Prod.mk.injEq, and_true] at h
    obtain ⟨⟨n1, t1, o1⟩, ⟨n2, t2, o2⟩, ⟨n3, t3, o3⟩, ⟨n4, t4, o4⟩, ⟨n5, t5, o5⟩, ⟨n6, t6, o6⟩, ⟨n7, t7, o7⟩⟩ := h
    have h8 := fun a b => eqInt d w 5 .u8 a b Try.underlying5
    have h32 := fun a b => eqInt d w 22 .u32 a b Try.underlying22
    have h64 := fun a b => eqInt d w 23 .u64 a b Try.underlying23
    have e7 := eq_step (d + 1) w _ _ f7 [] (by rw [n7]; decide) _ _ _ true (by rw [t7, o7]; exact part_one agg64 _ _ _ w rfl) (by rw [t7, o7]; exact part_one agg64 _ _ _ w rfl) (by rw [t7]; exact h64 a7 b7) (eq_done _ _ #[.int .u8 a1, .int .u32 a2, .int .u32 a3, .int .u32 a4, .int .u32 a5, .int .u64 a6, .int .u64 a7] #[.int .u8 b1, .int .u32 b2, .int .u32 b3, .int .u32 b4, .int .u32 b5, .int .u64 b6, .int .u64 b7])
    have e6 := eq_step (d + 1) w _ _ f6 _ (by rw [n6]; decide) _ _ _ _ (by rw [t6, o6]; exact part_one agg64 _ _ _ w rfl) (by rw [t6, o6]; exact part_one agg64 _ _ _ w rfl) (by rw [t6]; exact h64 a6 b6) e7
    have e5 := eq_step (d + 1) w _ _ f5 _ (by rw [n5]; decide) _ _ _ _ (by rw [t5, o5]; exact part_one agg32 _ _ _ w rfl) (by rw [t5, o5]; exact part_one agg32 _ _ _ w rfl) (by rw [t5]; exact h32 a5 b5) e6
    have e4 := eq_step (d + 1) w _ _ f4 _ (by rw [n4]; decide) _ _ _ _ (by rw [t4, o4]; exact part_one agg32 _ _ _ w rfl) (by rw [t4, o4]; exact part_one agg32 _ _ _ w rfl) (by rw [t4]; exact h32 a4 b4) e5
    have e3 := eq_step (d + 1) w _ _ f3 _ (by rw [n3]; decide) _ _ _ _ (by rw [t3, o3]; exact part_one agg32 _ _ _ w rfl) (by rw [t3, o3]; exact part_one agg32 _ _ _ w rfl) (by rw [t3]; exact h32 a3 b3) e4
    have e2 := eq_step (d + 1) w _ _ f2 _ (by rw [n2]; decide) _ _ _ _ (by rw [t2, o2]; exact part_one agg32 _ _ _ w rfl) (by rw [t2, o2]; exact part_one agg32 _ _ _ w rfl) (by rw [t2]; exact h32 a2 b2) e3
    have e1 := eq_step (d + 1) w _ _ f1 _ (by rw [n1]; decide) _ _ _ _ (by rw [t1, o1]; exact part_one agg8 _ _ _ w rfl) (by rw [t1, o1]; exact part_one agg8 _ _ _ w rfl) (by rw [t1]; exact h8 a1 b1) e2
    rw [e1]
    simp
theorem req_fields : (Try.prog.fieldsOf 27).toList.map (fun f => (f.name, f.type, f.offset)) = [("Kind", 5, 0), ("N", 22, 1), ("Op", 25, 2)] := by kernel_rfl
theorem reqT : Try.prog.underlying 27 = some (.struct (Try.prog.fieldsOf 27)) := by kernel_rfl
theorem reqH : Try.prog.stoodInHeld 27 = false := by kernel_rfl
theorem req_eql (w : World) (r s : Req) : (binOp .eql 27 (reqV r) (reqV s)).run Try.prog w = .ok (.bool (decide (r = s))) w := by
  obtain ⟨a1, a2, a3, a4, a5, a6, a7, a8, a9⟩ := r
  obtain ⟨b1, b2, b3, b4, b5, b6, b7, b8, b9⟩ := s
  unfold reqV
  rw [run_eql_struct]
  rw [run_equalIn_agg w 9999 _ _ _ reqT reqH]
  obtain ⟨fs, hfs⟩ : ∃ fs, (Try.prog.fieldsOf 27).toList = fs := ⟨_, rfl⟩
  have h := req_fields
  rw [hfs] at h ⊢
  match fs, h with
  | [f1, f2, f3], h =>
    simp only [List.map_cons, List.map_nil, List.cons.injEq, Prod.mk.injEq, and_true] at h
    obtain ⟨⟨n1, t1, o1⟩, ⟨n2, t2, o2⟩, ⟨n3, t3, o3⟩⟩ := h
    have pOp : ∀ (cs : Array Value), (part 25 cs 2).run Try.prog w = .ok (.agg (cs.extract 2 9)) w := fun cs => by simp [part, aggOp, sizeOp]
    have e3 := eq_step 9999 w _ _ f3 [] (by rw [n3]; decide) _ _ _ true (by rw [t3, o3]; exact pOp _) (by rw [t3, o3]; exact pOp _) (by rw [t3]; exact op_test 9997 w a3 a4 a5 a6 a7 a8 a9 b3 b4 b5 b6 b7 b8 b9)
      (eq_done _ _ #[.int .u8 a1, .int .u32 a2, .int .u8 a3, .int .u32 a4, .int .u32 a5, .int .u32 a6, .int .u32 a7, .int .u64 a8, .int .u64 a9] #[.int .u8 b1, .int .u32 b2, .int .u8 b3, .int .u32 b4, .int .u32 b5, .int .u32 b6, .int .u32 b7, .int .u64 b8, .int .u64 b9])
    have e2 := eq_step 9999 w _ _ f2 _ (by rw [n2]; decide) _ _ _ _ (by rw [t2, o2]; exact part_one agg32 _ _ _ w rfl) (by rw [t2, o2]; exact part_one agg32 _ _ _ w rfl) (by rw [t2]; exact eqInt 9998 w 22 .u32 a2 b2 Try.underlying22) e3
    have e1 := eq_step 9999 w _ _ f1 _ (by rw [n1]; decide) _ _ _ _ (by rw [t1, o1]; exact part_one agg8 _ _ _ w rfl) (by rw [t1, o1]; exact part_one agg8 _ _ _ w rfl) (by rw [t1]; exact eqInt 9998 w 5 .u8 a1 b1 Try.underlying5) e2
    rw [e1]
    simp
theorem op_eql (w : World) (a1 a2 a3 a4 a5 a6 a7 b1 b2 b3 b4 b5 b6 b7 : Nat) :
    (binOp .eql 25 (.agg #[.int .u8 a1, .int .u32 a2, .int .u32 a3, .int .u32 a4, .int .u32 a5, .int .u64 a6, .int .u64 a7]) (.agg #[.int .u8 b1, .int .u32 b2, .int .u32 b3, .int .u32 b4, .int .u32 b5, .int .u64 b6, .int .u64 b7])).run Try.prog w =
      .ok (.bool (decide (a1 = b1 ∧ a2 = b2 ∧ a3 = b3 ∧ a4 = b4 ∧ a5 = b5 ∧ a6 = b6 ∧ a7 = b7))) w := by
  rw [run_eql_struct, op_test 9998]
  rfl
theorem op_neq (w : World) (a1 a2 a3 a4 a5 a6 a7 b1 b2 b3 b4 b5 b6 b7 : Nat) :
    (binOp .neq 25 (.agg #[.int .u8 a1, .int .u32 a2, .int .u32 a3, .int .u32 a4, .int .u32 a5, .int .u64 a6, .int .u64 a7]) (.agg #[.int .u8 b1, .int .u32 b2, .int .u32 b3, .int .u32 b4, .int .u32 b5, .int .u64 b6, .int .u64 b7])).run Try.prog w =
      .ok (.bool (!decide (a1 = b1 ∧ a2 = b2 ∧ a3 = b3 ∧ a4 = b4 ∧ a5 = b5 ∧ a6 = b6 ∧ a7 = b7))) w := by
  rw [run_neq_struct, op_test 9998]
  rfl
theorem rep_fields : (Try.prog.fieldsOf 42).toList.map (fun f => (f.name, f.type, f.offset)) = [("Err", 32, 0), ("A", 23, 1), ("B", 23, 2), ("C", 23, 3)] := by kernel_rfl
theorem repT : Try.prog.underlying 42 = some (.struct (Try.prog.fieldsOf 42)) := by kernel_rfl
theorem repH : Try.prog.stoodInHeld 42 = false := by kernel_rfl
theorem rep_eql (w : World) (r s : Rep) : (binOp .eql 42 (repV r) (repV s)).run Try.prog w = .ok (.bool (decide (r = s))) w := by
  obtain ⟨a1, a2, a3, a4⟩ := r
  obtain ⟨b1, b2, b3, b4⟩ := s
  unfold repV
  rw [run_eql_struct]
  rw [run_equalIn_agg w 9999 _ _ _ repT repH]
  obtain ⟨fs, hfs⟩ : ∃ fs, (Try.prog.fieldsOf 42).toList = fs := ⟨_, rfl⟩
  have h := rep_fields
  rw [hfs] at h ⊢
  match fs, h with
  | [f1, f2, f3, f4], h =>
    simp only [List.map_cons, List.map_nil, List.cons.injEq, Prod.mk.injEq, and_true] at h
    obtain ⟨⟨n1, t1, o1⟩, ⟨n2, t2, o2⟩, ⟨n3, t3, o3⟩, ⟨n4, t4, o4⟩⟩ := h
    have h64 := fun a b => eqInt 9998 w 23 .u64 a b Try.underlying23
    have e4 := eq_step 9999 w _ _ f4 [] (by rw [n4]; decide) _ _ _ true (by rw [t4, o4]; exact part_one agg64 _ _ _ w rfl) (by rw [t4, o4]; exact part_one agg64 _ _ _ w rfl) (by rw [t4]; exact h64 a4 b4) (eq_done _ _ #[.int .u16 a1, .int .u64 a2, .int .u64 a3, .int .u64 a4] #[.int .u16 b1, .int .u64 b2, .int .u64 b3, .int .u64 b4])
    have e3 := eq_step 9999 w _ _ f3 _ (by rw [n3]; decide) _ _ _ _ (by rw [t3, o3]; exact part_one agg64 _ _ _ w rfl) (by rw [t3, o3]; exact part_one agg64 _ _ _ w rfl) (by rw [t3]; exact h64 a3 b3) e4
    have e2 := eq_step 9999 w _ _ f2 _ (by rw [n2]; decide) _ _ _ _ (by rw [t2, o2]; exact part_one agg64 _ _ _ w rfl) (by rw [t2, o2]; exact part_one agg64 _ _ _ w rfl) (by rw [t2]; exact h64 a2 b2) e3
    have e1 := eq_step 9999 w _ _ f1 _ (by rw [n1]; decide) _ _ _ _ (by rw [t1, o1]; exact part_one agg16 _ _ _ w rfl) (by rw [t1, o1]; exact part_one agg16 _ _ _ w rfl) (by rw [t1]; exact eqInt 9998 w 32 .u16 a1 b1 Try.underlying32) e2
    rw [e1]
    simp
end Go.Proofs.Ytciidogbojbkiaa
