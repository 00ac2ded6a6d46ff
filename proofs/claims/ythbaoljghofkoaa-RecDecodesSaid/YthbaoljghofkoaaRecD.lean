/- rec: what read leaves by when a reader panics. Conditions: as stated. -/
import Derived.Test.YthbaoljghofkoaaRecG
import Derived.Test.YthbaoljghofkoaaRecC
import Derived.Defers
import Derived.Recover
namespace Go.Proofs.Ythbaoljghofkoaa
open Go.ChangeShapes Go.WideShapes Go.ChangeAt Go.RowKit
open NumMath
set_option linter.unusedVariables false
set_option linter.unusedSimpArgs false
set_option maxRecDepth 20000

def recZ : RecP := ⟨0, 0, 0, 0, ⟨0, 0, false, false, [], []⟩, [], []⟩
def memZ : RecMm := ⟨⟨none, 0, none, 0⟩, none, 0, none, 0⟩
theorem store_rec_all {w : World} {g : Nat} {cs : Array Value} (h : Blk w g 31 cs) (hs : cs.size = 12) (r : RecP) (m : RecMm) : (Instr.storeAt 31 (.pointer (some ⟨g, 0, none⟩)) (.agg (recA r m))).run Try.prog w = .ok () (w.setRow g (recA r m)) := by
  simp only [Instr.storeAt, Instr.sureAddr, Sem.run_bind, Sem.run_pure, Result.andThen_ok]
  exact run_storeVar_row w g 31 31 cs (recA r m) h size_rec hs (by simp [recA, Value.oneCell'])
theorem results_rec {fn : Func} {p q : Tmp} {ty tb : TypeId} (h : fn.results = #[.cell p ty, .cell q tb]) (tmps : Array Value) (w : World) (g gb : Nat) (u v : Value)
    (hp : tmps.getD p undef = .pointer (some ⟨g, 0, none⟩)) (hl : (loadVar ty ⟨g, 0, none⟩).run Try.prog w = .ok u w)
    (hq : tmps.getD q undef = .pointer (some ⟨gb, 0, none⟩)) (hb : (loadVar tb ⟨gb, 0, none⟩).run Try.prog w = .ok v w) :
    (results fn tmps).run Try.prog w = .ok (.tuple #[u, v]) w := by
  have hp' : tmps[p]?.getD undef = .pointer (some ⟨g, 0, none⟩) := by simpa using hp
  have hq' : tmps[q]?.getD undef = .pointer (some ⟨gb, 0, none⟩) := by simpa using hq
  simp [results, h, hp', hq', asAddr, hl, hb]
theorem load_whole {w : World} {g : Nat} {r : RecP} {m : RecMm} (h : Blk w g 31 (recA r m)) : (loadVar 31 ⟨g, 0, none⟩).run Try.prog w = .ok (.agg (recA r m)) w :=
  run_loadVar_row w g 31 31 (recA r m) (0, 0) _ h Try.underlying31 rfl size_rec
theorem load_bool {w : World} {g : Nat} {v : Value} (h : Blk w g 4 #[v]) : (loadVar 4 ⟨g, 0, none⟩).run Try.prog w = .ok v w := by
  have hc := h.cell 0
  simp [go_sem, loadVar, hc]
def CatchPost (bx bi : Nat) (w : World) (e : Ending) (u' : FrameMode) (w' : World) : Prop :=
  e = .returned (.tuple #[]) ∧ u' = .panicking [{ v := .iface 88 (.agg #[]), recovered := true }] ∧ Blk w' bx 31 (recA recZ memZ) ∧ Blk w' bi 4 #[.bool false] ∧ Only (fun b => b = bx ∨ b = bi) w w'
theorem catch_bad {bx bi : Nat} {w : World} {cs : Array Value} {v : Value} (hx : Blk w bx 31 cs) (hs : cs.size = 12) (hb : Blk w bi 4 #[v]) :
    CallsD Try.prog 45 #[.pointer (some ⟨bx, 0, none⟩), .pointer (some ⟨bi, 0, none⟩)] (.panicking BadP) w (CatchPost bx bi w) := by
  have hne : bi ≠ bx := hb.ne_ hx (by decide)
  have st := store_rec_all hx hs recZ memZ
  have hO := only_row w bx (recA recZ memZ)
  have kx := row_blk hx (recA recZ memZ)
  have kb := hb.only hO hne
  have cb := kb.cell 0
  have fb := kb.frozen 0
  have FIN : Hid (CatchPost bx bi w (.returned (.tuple #[])) (.panicking [{ v := .iface 88 (.agg #[]), recovered := true }]) ((w.setRow bx (recA recZ memZ)).setCell ⟨bi, 0, none⟩ (.bool false))) := Lib.hid
    ⟨rfl, rfl, kx.far (fun e => hne e.symm) _, kb.set_ 0 _, (hO.mono fun b q => .inl (.inl q)).setCell (p := ⟨bi, 0, none⟩) (.inl (.inr rfl)) _⟩
  clear hx hb kx kb hO
  refine callsD_of_wpS Try.func45 rfl fun c₀ cs hu => ?_
  apply wpS_seq
  apply wpS_region
  simp [wpOpsS, go_sem, recoverD, hu, Try.ntmps45, Exit.thenS, BadP]
  apply wpS_seq
  apply wpS_region
  simp [wpOpsS, go_sem, Try.ntmps45, Exit.thenS]
  refine wpS_cond (t := true) (by simp [Act.eval, Array.replicate]) ?_
  simp only [if_true]
  refine wpS_of_wp ?_
  go_wp2_with (refine wpList_store_run rfl 31 (.tmp 0) (.tmp 6) _ _ rfl rfl rfl st ?_; clear st)
  exact ⟨rfl, _, rfl, .tuple #[], results_none rfl _ _ _, FIN.out⟩
theorem catch_idle {bx bi : Nat} {w : World} : CallsD Try.prog 45 #[.pointer (some ⟨bx, 0, none⟩), .pointer (some ⟨bi, 0, none⟩)] .returning w fun e u' w' => e = .returned (.tuple #[]) ∧ u' = .returning ∧ w' = w := by
  refine callsD_of_wpS Try.func45 rfl fun c₀ cs hu => ?_
  apply wpS_seq
  apply wpS_region
  simp [wpOpsS, go_sem, recoverD, hu, Try.ntmps45, Exit.thenS]
  apply wpS_seq
  apply wpS_region
  simp [wpOpsS, go_sem, Try.ntmps45, Exit.thenS]
  refine wpS_cond (t := false) (by simp [Act.eval, Array.replicate]) ?_
  simp only [Bool.false_eq_true, if_false]
  refine wpS_of_wp (wp_skip ?_)
  cases c₀
  simp_all [bodyPostS, results, Try.results45]
end Go.Proofs.Ythbaoljghofkoaa
