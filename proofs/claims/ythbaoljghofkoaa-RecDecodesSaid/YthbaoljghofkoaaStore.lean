/- Loads and stores of many cells as one step of the walk. Conditions: as stated. -/
import Derived.Test.YthbaoljghofkoaaFrames
import Derived.Deep.MidRow
import Derived.Deep.WholeRow
namespace Go.Proofs.Ythbaoljghofkoaa
open Go.RowKit
set_option linter.unusedVariables false

theorem wp_load_run {P : Program} {w : World} {o : Oper} {a : Act} {K : Act → World → Prop} {Q : Exit → Act → World → Prop} (t : TypeId) (x : Operand) (X v : Value) (ho : o.op = .load t x) (hx : a.eval x = X)
    (hr : (Instr.loadAt t X).run P w = .ok v w) (h : K (a.put o.dst v) w) : o.wp P a w K Q := by
  unfold Oper.wp execOp
  simp only [ho, hx, Sem.run_bind, hr, Result.andThen_ok]
  exact h
theorem wp_store_run {P : Program} {w w' : World} {o : Oper} {a : Act} {K : Act → World → Prop} {Q : Exit → Act → World → Prop} (t : TypeId) (x y : Operand) (X Y : Value) (ho : o.op = .store t x y) (hx : a.eval x = X) (hy : a.eval y = Y)
    (hr : (Instr.storeAt t X Y).run P w = .ok () w') (h : K (a.put o.dst undef) w') : o.wp P a w K Q := by
  unfold Oper.wp execOp
  simp only [ho, hx, hy, Sem.run_bind, hr, Result.andThen_ok]
  exact h
theorem wpList_store_run {P : Program} {w w' : World} {ops : Array Oper} {rest : List Oper} {o : Oper} {a : Act} {Q : Exit → Act → World → Prop} (hgd : o.guard = none) (t : TypeId) (x y : Operand) (X Y : Value) (ho : o.op = .store t x y) (hx : a.eval x = X) (hy : a.eval y = Y)
    (hr : (Instr.storeAt t X Y).run P w = .ok () w') (h : wpList P ops Q rest (a.put o.dst undef) w') : wpList P ops Q (o :: rest) a w :=
  wpList_plain hgd fun _ hK => wp_store_run t x y X Y ho hx hy hr (hK _ _ h)
theorem wpList_load_run {P : Program} {w : World} {ops : Array Oper} {rest : List Oper} {o : Oper} {a : Act} {Q : Exit → Act → World → Prop} (hgd : o.guard = none) (t : TypeId) (x : Operand) (X v : Value) (ho : o.op = .load t x) (hx : a.eval x = X)
    (hr : (Instr.loadAt t X).run P w = .ok v w) (h : wpList P ops Q rest (a.put o.dst v) w) : wpList P ops Q (o :: rest) a w :=
  wpList_plain hgd fun _ hK => wp_load_run t x X v ho hx hr (hK _ _ h)
/-- cells of a block known whole, loaded as a struct or a row -/
theorem run_load_blk {P : Program} {w : World} {g : Nat} {t : TypeId} {cs : Array Value} (h : Blk w g t cs) (o : Nat) (ty : TypeId) (sub : List Value) (d : TypeDesc) (hs : ∀ j v, sub[j]? = some v → cs[o + j]? = some v)
    (hu : P.underlying ty = some d) (hd : d.isRow = true) (hi : (P.info? ty).map (·.size) = some sub.length) :
    (Instr.loadAt ty (.pointer (some ⟨g, o, none⟩))).run P w = .ok (.agg sub.toArray) w :=
  run_loadAt_mid w g o ty sub d (fun j v hv => by rw [h.cell]; exact hs j v hv) hu hd hi
/-- the cells at an address, loaded as a struct -/
theorem run_load_cells {P : Program} {w : World} {g o : Nat} (ty : TypeId) (sub : List Value) (d : TypeDesc) (hs : ∀ j v, sub[j]? = some v → w.cell? ⟨g, o + j, none⟩ = some v)
    (hu : P.underlying ty = some d) (hd : d.isRow = true) (hi : (P.info? ty).map (·.size) = some sub.length) :
    (Instr.loadAt ty (.pointer (some ⟨g, o, none⟩))).run P w = .ok (.agg sub.toArray) w :=
  run_loadAt_mid w g o ty sub d hs hu hd hi
end Go.Proofs.Ythbaoljghofkoaa
