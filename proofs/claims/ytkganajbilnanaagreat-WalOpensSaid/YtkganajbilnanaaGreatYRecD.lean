/- rec: what read leaves by when a reader panics. Conditions: as stated. -/
import Derived.Test.YtkganajbilnanaaGreatYRecG
import Derived.Defers
import Derived.Recover
import Derived.Tactics2
set_option linter.unusedVariables false
set_option linter.unusedSimpArgs false
namespace Go.Proofs.YtkganajbilnanaaGreat
open Go.ChangeShapes Go.WideShapes Go.ChangeAt Go.RowKit
open NumMath
set_option maxRecDepth 20000
def recZ : RecP := ⟨0, 0, 0, 0, ⟨0, 0, false, false, [], []⟩, [], []⟩
def memZ : RecMm := ⟨⟨none, 0, none, 0⟩, none, 0, none, 0⟩
theorem store_rec_all {w : World} {g : Nat} {cs : Array Value} (h : Blk w g 51 cs) (hs : cs.size = 12) (r : RecP) (m : RecMm) : (Instr.storeAt 51 (.pointer (some ⟨g, 0, none⟩)) (.agg (recA r m))).run Tryz.prog w = .ok () (w.setRow g (recA r m)) := by
  simp only [Instr.storeAt, Instr.sureAddr, Sem.run_bind, Sem.run_pure, Result.andThen_ok]
  exact run_storeVar_row w g 51 51 cs (recA r m) h size_rec hs (by simp [recA, Value.oneCell'])
theorem results_rec {fn : Func} {p q : Tmp} {ty tb : TypeId} (h : fn.results = #[.cell p ty, .cell q tb]) (tmps : Array Value) (w : World) (g gb : Nat) (u v : Value)
    (hp : tmps.getD p undef = .pointer (some ⟨g, 0, none⟩)) (hl : (loadVar ty ⟨g, 0, none⟩).run Tryz.prog w = .ok u w)
    (hq : tmps.getD q undef = .pointer (some ⟨gb, 0, none⟩)) (hb : (loadVar tb ⟨gb, 0, none⟩).run Tryz.prog w = .ok v w) :
    (results fn tmps).run Tryz.prog w = .ok (.tuple #[u, v]) w := by
  have hp' : tmps[p]?.getD undef = .pointer (some ⟨g, 0, none⟩) := by simpa using hp
  have hq' : tmps[q]?.getD undef = .pointer (some ⟨gb, 0, none⟩) := by simpa using hq
  simp [results, h, hp', hq', asAddr, hl, hb]
theorem load_whole {w : World} {g : Nat} {r : RecP} {m : RecMm} (h : Blk w g 51 (recA r m)) : (loadVar 51 ⟨g, 0, none⟩).run Tryz.prog w = .ok (.agg (recA r m)) w :=
  run_loadVar_row w g 51 51 (recA r m) (0, 0) _ h Tryz.underlying51 rfl size_rec
theorem load_bool {w : World} {g : Nat} {v : Value} (h : Blk w g 4 #[v]) : (loadVar 4 ⟨g, 0, none⟩).run Tryz.prog w = .ok v w := by
  have hc := h.cell 0
  simp [go_sem, loadVar, hc]
def CatchPost (bx bi : Nat) (w : World) (e : Ending) (u' : FrameMode) (w' : World) : Prop :=
  e = .returned (.tuple #[]) ∧ u' = .panicking [{ v := .iface 187 (.agg #[]), recovered := true }] ∧ Blk w' bx 51 (recA recZ memZ) ∧ Blk w' bi 4 #[.bool false] ∧ Only (fun b => b = bx ∨ b = bi) w w'
theorem catch_bad {bx bi : Nat} {w : World} {cs : Array Value} {v : Value} (hx : Blk w bx 51 cs) (hs : cs.size = 12) (hb : Blk w bi 4 #[v]) :
    CallsD Tryz.prog 114 #[.pointer (some ⟨bx, 0, none⟩), .pointer (some ⟨bi, 0, none⟩)] (.panicking BadP) w (CatchPost bx bi w) := by
  have hne : bi ≠ bx := hb.ne_ hx (by decide)
  have st := store_rec_all hx hs recZ memZ
  have hO := only_row w bx (recA recZ memZ)
  have kx := row_blk hx (recA recZ memZ)
  have kb := hb.only hO hne
  have cb := kb.cell 0
  have fb := kb.frozen 0
  have FIN : Hid (CatchPost bx bi w (.returned (.tuple #[])) (.panicking [{ v := .iface 187 (.agg #[]), recovered := true }]) ((w.setRow bx (recA recZ memZ)).setCell ⟨bi, 0, none⟩ (.bool false))) := Lib.hid
    ⟨rfl, rfl, kx.far (fun e => hne e.symm) _, kb.set_ 0 _, (hO.mono fun b q => .inl (.inl q)).setCell (p := ⟨bi, 0, none⟩) (.inl (.inr rfl)) _⟩
  clear hx hb kx kb hO
  refine callsD_of_wpS Tryz.func114 rfl fun c₀ cs hu => ?_
  apply wpS_seq
  apply wpS_region
  simp [wpOpsS, go_sem, recoverD, hu, Tryz.ntmps114, Exit.thenS, BadP]
  apply wpS_seq
  apply wpS_region
  simp [wpOpsS, go_sem, Tryz.ntmps114, Exit.thenS]
  refine wpS_cond (t := true) (by simp [Act.eval, Array.replicate]) ?_
  simp only [if_true]
  refine wpS_of_wp ?_
  go_wp2_with (refine wpList_store_run rfl 51 (.tmp 0) (.tmp 6) _ _ rfl rfl rfl st ?_; clear st)
  exact ⟨rfl, _, rfl, .tuple #[], results_none rfl _ _ _, FIN.out⟩
theorem catch_idle {bx bi : Nat} {w : World} : CallsD Tryz.prog 114 #[.pointer (some ⟨bx, 0, none⟩), .pointer (some ⟨bi, 0, none⟩)] .returning w fun e u' w' => e = .returned (.tuple #[]) ∧ u' = .returning ∧ w' = w := by
  refine callsD_of_wpS Tryz.func114 rfl fun c₀ cs hu => ?_
  apply wpS_seq
  apply wpS_region
  simp [wpOpsS, go_sem, recoverD, hu, Tryz.ntmps114, Exit.thenS]
  apply wpS_seq
  apply wpS_region
  simp [wpOpsS, go_sem, Tryz.ntmps114, Exit.thenS]
  refine wpS_cond (t := false) (by simp [Act.eval, Array.replicate]) ?_
  simp only [Bool.false_eq_true, if_false]
  refine wpS_of_wp (wp_skip ?_)
  cases c₀
  simp_all [bodyPostS, results, Tryz.results114]
def chgZ0 : ChgP := ⟨0, 0, false, false, [], []⟩
def restP (kind : Nat) (l : List Nat) : Option ((ChgP × List TxP × List DirP) × List Nat) :=
  if chgs kind = true then (chgP l).bind fun c => some ((c.1, [], []), c.2) else if kind = 8 then (tabP l).bind fun t => some ((chgZ0, t.1.1, t.1.2), t.2) else some ((chgZ0, [], []), l)
def headP (l : List Nat) : Option ((Nat × Nat × Nat × Nat) × List Nat) :=
  (numP 1 l).bind fun a => (numP 4 a.2).bind fun b => (numP 8 b.2).bind fun c => (numP 8 c.2).bind fun d => some ((a.1, b.1, c.1, d.1), d.2)
def readP (l : List Nat) : Option RecP :=
  if 2 ≤ l.length then (numP 4 (l.drop 2)).bind fun s => if s.1 = sumB s.2 then (headP s.2).bind fun h => (restP h.1.1 h.2).bind fun q =>
    if q.2 = [] ∧ okR ⟨h.1.1, h.1.2.1, h.1.2.2.1, h.1.2.2.2, q.1.1, q.1.2.1, q.1.2.2⟩ = true then some ⟨h.1.1, h.1.2.1, h.1.2.2.1, h.1.2.2.2, q.1.1, q.1.2.1, q.1.2.2⟩ else none else none
  else none
structure RS (bx bi p : Nat) (w0 : World) (cs : Array Value) (l : List Nat) (w : World) : Prop where
  x : Blk w bx 51 cs
  i : Blk w bi 4 #[.bool false]
  rd : RdE w0.heap.size p w l w
  lo : Below w0.heap.size w0 w
  hx : w0.heap.size ≤ bx
  hi : w0.heap.size ≤ bi
section
variable {bx bi p : Nat} {w0 w w' : World} {cs : Array Value} {l l' : List Nat}
theorem RS.nex (h : RS bx bi p w0 cs l w) : bx ≠ p := by obtain ⟨v, hv⟩ := h.rd.blk; exact h.x.ne_ hv (by decide)
theorem RS.nei (h : RS bx bi p w0 cs l w) : bi ≠ p := by obtain ⟨v, hv⟩ := h.rd.blk; exact h.i.ne_ hv (by decide)
theorem RS.neb (h : RS bx bi p w0 cs l w) : bi ≠ bx := h.i.ne_ h.x (by decide)
theorem RS.read (h : RS bx bi p w0 cs l w) (h' : RdE w0.heap.size p w l' w') : RS bx bi p w0 cs l' w' :=
  ⟨h.x.only h'.only h.nex, h.i.only h'.only h.nei, h'.here, h.lo.trans (h'.only.below h.lo.size fun b q => by rw [q]; exact h.rd.bp), h.hx, h.hi⟩
theorem RS.below (h : RS bx bi p w0 cs l w) (hb : Below w.heap.size w w') : RS bx bi p w0 cs l w' :=
  ⟨h.x.below hb h.x.lt, h.i.below hb h.i.lt, h.rd.rebase (Only.of_below hb fun _ => False) (fun q => q) (fun b q => q.elim), h.lo.trans (hb.mono h.lo.size), h.hx, h.hi⟩
end
def RecFrom (lo : Nat) (w : World) (r : RecP) (m : RecMm) : Prop := ∀ W : World, (∀ b, lo ≤ b → b < w.heap.size → W.heap[b]? = w.heap[b]?) → RecAt W W.heap.size r m
theorem RecFrom.at_ {lo : Nat} {w : World} {r : RecP} {m : RecMm} (h : RecFrom lo w r m) : RecAt w w.heap.size r m := h w fun _ _ _ => rfl
theorem RecFrom.only {lo : Nat} {w w' : World} {r : RecP} {m : RecMm} {S : Nat → Prop} (h : RecFrom lo w r m) (hO : Only S w w') (hS : ∀ b, S b → b < lo) : RecFrom lo w' r m := fun W hW =>
  h W fun b h1 h2 => (hW b h1 (Nat.lt_of_lt_of_le h2 hO.size)).trans (hO.block b h2 fun q => by have := hS b q; omega)
theorem RecFrom.less {lo lo' : Nat} {w : World} {r : RecP} {m : RecMm} (h : RecFrom lo w r m) (hl : lo' ≤ lo) : RecFrom lo' w r m := fun W hW => h W fun b h1 h2 => hW b (Nat.le_trans hl h1) h2
theorem own_from {lo base : Nat} {w W : World} {e : TypeId} {s : Nat} {v : Value} {n : Nat} {xs : List Value} (h : w.ownsRow base e s v n xs) (hb : lo ≤ base) (hW : ∀ b, lo ≤ b → b < w.heap.size → W.heap[b]? = w.heap[b]?) : W.ownsRow base e s v n xs := by
  refine ⟨h.1, ?_⟩
  rcases h.2 with hn | ⟨g, cap, cur, hv, hg, hh, rest⟩
  · exact .inl hn
  · refine .inr ⟨g, cap, cur, hv, hg, ?_, rest⟩
    rw [hW g (by omega) ?_]
    · exact hh
    · rcases Nat.lt_or_ge g w.heap.size with q | q
      · exact q
      · rw [Array.getElem?_eq_none q] at hh
        cases hh
def ReadPost (l : List Nat) (w : World) (e : Ending) (w' : World) : Prop :=
  Below w.heap.size w w' ∧ ((∃ r m, readP l = some r ∧ e = .returned (.tuple #[.agg (recA r m), .bool true]) ∧ RecFrom w.heap.size w' r m) ∨ (readP l = none ∧ e = .returned (.tuple #[.agg (recA recZ memZ), .bool false])))
theorem flat_get {α β : Type} (f : α → List β) (s : Nat) (hf : ∀ x, (f x).length = s) : ∀ (l : List α) (j i : Nat) (hi : i < s) (hj : j < l.length), (l.flatMap f)[j * s + i]? = (f l[j])[i]?
  | [], j, i, hi, hj => by simp at hj
  | x :: l, 0, i, hi, hj => by
    rw [List.flatMap_cons, Nat.zero_mul, Nat.zero_add, List.getElem?_append_left (by rw [hf]; exact hi)]
    rfl
  | x :: l, j + 1, i, hi, hj => by
    rw [List.flatMap_cons, List.getElem?_append_right (by rw [hf, Nat.succ_mul]; omega), hf, show (j + 1) * s + i - s = j * s + i by rw [Nat.succ_mul]; omega]
    exact flat_get f s hf l j i hi (by simpa using hj)
theorem own_cell {w : World} {base : Nat} {e : TypeId} {size : Nat} {A : Option Addr} {n c : Nat} {xs : List Value} (h : w.ownsRow base e size (.slice A n c) n xs) {j : Nat} {u : Value} (hj : xs[j]? = some u) :
    ∃ g, A = some ⟨g, 0, none⟩ ∧ g < w.heap.size ∧ w.cell? ⟨g, j, none⟩ = some u := by
  have hl := h.1
  have hjl : j < xs.length := (List.getElem?_eq_some_iff.1 hj).1
  rcases h.2 with ⟨_, rfl⟩ | ⟨g, cap, cur, hv, hg, hh, hn, hm, hs, hx⟩
  · omega
  · injection hv with h1 h2 h3
    refine ⟨g, h1, ?_, ?_⟩
    · rcases Nat.lt_or_ge g w.heap.size with q | q
      · exact q
      · rw [Array.getElem?_eq_none q] at hh
        cases hh
    · have : w.cell? ⟨g, j, none⟩ = cur[j]? := by simp [World.cell?, hh]
      rw [this, ← Array.getElem?_toList, ← hj, ← hx, List.getElem?_take_of_lt (by omega)]
theorem own_txs {w : World} {base : Nat} {A : Option Addr} {n c : Nat} {t : List TxP} (h : w.ownsRow base 145 4 (.slice A n c) n (txCells t)) : TxsAt w w.heap.size A t := fun j hj => by
  have key : ∀ i u, i < 4 → (txV t[j]).toList[i]? = some u → ∃ g, A = some ⟨g, 0, none⟩ ∧ g < w.heap.size ∧ w.cell? ⟨g, j * 4 + i, none⟩ = some u := fun i u hi hu => own_cell h (by
    unfold txCells
    rw [flat_get _ 4 (fun _ => rfl) t j i hi hj]
    exact hu)
  obtain ⟨g, e, hg, c0⟩ := key 0 _ (by omega) rfl
  obtain ⟨g1, e1, _, c1⟩ := key 1 _ (by omega) rfl
  obtain ⟨g2, e2, _, c2⟩ := key 2 _ (by omega) rfl
  obtain ⟨g3, e3, _, c3⟩ := key 3 _ (by omega) rfl
  rw [e] at e1 e2 e3
  injection e1 with e1; injection e1 with e1; subst e1
  injection e2 with e2; injection e2 with e2; subst e2
  injection e3 with e3; injection e3 with e3; subst e3
  exact ⟨g, 0, e, hg, by rw [Nat.zero_add]; exact c0, by rw [Nat.zero_add]; exact c1, by rw [Nat.zero_add]; exact c2, by rw [Nat.zero_add]; exact c3⟩
theorem own_dirs {w : World} {base : Nat} {A : Option Addr} {n c : Nat} {t : List DirP} (h : w.ownsRow base 147 2 (.slice A n c) n (dirCells t)) : DirsAt w w.heap.size A t := fun j hj => by
  have key : ∀ i u, i < 2 → (dirV t[j]).toList[i]? = some u → ∃ g, A = some ⟨g, 0, none⟩ ∧ g < w.heap.size ∧ w.cell? ⟨g, j * 2 + i, none⟩ = some u := fun i u hi hu => own_cell h (by
    unfold dirCells
    rw [flat_get _ 2 (fun _ => rfl) t j i hi hj]
    exact hu)
  obtain ⟨g, e, hg, c0⟩ := key 0 _ (by omega) rfl
  obtain ⟨g1, e1, _, c1⟩ := key 1 _ (by omega) rfl
  rw [e] at e1
  injection e1 with e1; injection e1 with e1; subst e1
  exact ⟨g, 0, e, hg, by rw [Nat.zero_add]; exact c0, by rw [Nat.zero_add]; exact c1⟩
structure BS (bx bi : Nat) (w0 w : World) : Prop where
  x : ∃ cs, cs.size = 12 ∧ Blk w bx 51 cs
  i : ∃ v, Blk w bi 4 #[v]
  lo : Below w0.heap.size w0 w
  hx : w0.heap.size ≤ bx
  hi : w0.heap.size ≤ bi
section
variable {bx bi p : Nat} {w0 w w' : World} {cs : Array Value} {l l' l0 : List Nat} {tmps : Array Value} {r : RecP} {m : RecMm} {b : Bool}
theorem RS.bs (h : RS bx bi p w0 cs l w) (hs : cs.size = 12) (hO : Only (fun b => b = p) w w') : BS bx bi w0 w' :=
  ⟨⟨cs, hs, h.x.only hO h.nex⟩, ⟨_, h.i.only hO h.nei⟩, h.lo.trans (hO.below h.lo.size fun b q => by rw [q]; exact h.rd.bp), h.hx, h.hi⟩
theorem RS.bs2 (h : RS bx bi p w0 cs l w) (hs : cs.size = 12) (hO : Only (fun b => b = p ∨ b = bx) w w') (hk : ∃ cs', cs'.size = cs.size ∧ Blk w' bx 51 cs') : BS bx bi w0 w' := by
  obtain ⟨cs', e, k⟩ := hk
  exact ⟨⟨cs', e.trans hs, k⟩, ⟨_, h.i.only hO fun q => q.elim h.nei h.neb⟩, h.lo.trans (hO.below h.lo.size fun b q => q.elim (fun q => by rw [q]; exact h.rd.bp) fun q => by rw [q]; exact h.hx), h.hx, h.hi⟩
theorem leave_bad (h : BS bx bi w0 w) (hn : readP l0 = none) (t2 : tmps.getD 2 undef = .pointer (some ⟨bx, 0, none⟩)) (t3 : tmps.getD 3 undef = .pointer (some ⟨bi, 0, none⟩)) :
    Leaves Tryz.prog Tryz.f77 tmps (ReadPost l0 w0) [{ target := .fn (.func 114) #[.pointer (some ⟨bx, 0, none⟩), .pointer (some ⟨bi, 0, none⟩)], args := #[] }] (.panicking BadP) w := by
  obtain ⟨⟨cs, hs, kx⟩, ⟨v, ki⟩, lo, hx, hi⟩ := h
  refine leaves_cons (f := 114) (args := #[.pointer (some ⟨bx, 0, none⟩), .pointer (some ⟨bi, 0, none⟩)]) (by simp) (by simp [go_sem]) ?_
  refine (catch_bad kx hs ki).mono ?_
  rintro e u' w' ⟨rfl, rfl, k1, k2, hO⟩
  refine ⟨_, results_rec rfl tmps w' bx bi _ _ t2 (load_whole k1) t3 (load_bool k2), lo.trans (hO.below lo.size fun b q => q.elim (fun q => by rw [q]; exact hx) fun q => by rw [q]; exact hi), .inr ⟨hn, rfl⟩⟩
theorem leave_ret (kx : Blk w bx 51 (recA r m)) (ki : Blk w bi 4 #[.bool b]) (hR : ReadPost l0 w0 (.returned (.tuple #[.agg (recA r m), .bool b])) w) (t2 : tmps.getD 2 undef = .pointer (some ⟨bx, 0, none⟩)) (t3 : tmps.getD 3 undef = .pointer (some ⟨bi, 0, none⟩)) :
    Leaves Tryz.prog Tryz.f77 tmps (ReadPost l0 w0) [{ target := .fn (.func 114) #[.pointer (some ⟨bx, 0, none⟩), .pointer (some ⟨bi, 0, none⟩)], args := #[] }] .returning w := by
  refine leaves_cons (f := 114) (args := #[.pointer (some ⟨bx, 0, none⟩), .pointer (some ⟨bi, 0, none⟩)]) (by simp) (by simp [go_sem]) ?_
  refine catch_idle.mono ?_
  rintro e u' w' ⟨rfl, rfl, rfl⟩
  exact ⟨_, results_rec rfl tmps w' bx bi _ _ t2 (load_whole kx) t3 (load_bool ki), hR⟩
end
theorem wpList_load_run_g {P : Program} {w : World} {ops : Array Oper} {rest : List Oper} {o : Oper} {a : Act} {Q : Exit → Act → World → Prop} (hw : Region.wanted o (yielded ops a.tmps) = true) (t : TypeId) (x : Operand) (X v : Value) (ho : o.op = .load t x) (hx : a.eval x = X)
    (hr : (Instr.loadAt t X).run P w = .ok v w) (h : wpList P ops Q rest (a.put o.dst v) w) : wpList P ops Q (o :: rest) a w :=
  wpList_step fun K hK => by
    rw [if_pos hw]
    exact wp_load_run t x X v ho hx hr (hK _ _ h)
section
variable {bx bi p : Nat} {w0 w w' : World} {cs : Array Value} {l l' l0 : List Nat}
theorem RS.row (h : RS bx bi p w0 cs l w) (cs' : Array Value) : RS bx bi p w0 cs' l (w.setRow bx cs') := by
  have hO := only_row w bx cs'
  exact ⟨row_blk h.x cs', h.i.only hO h.neb, h.rd.rebase hO (fun e => h.nex e.symm) (fun b q => by rw [q]; exact h.hx), h.lo.trans (hO.below h.lo.size fun b q => by rw [q]; exact h.hx), h.hx, h.hi⟩
theorem RS.put (h : RS bx bi p w0 cs l w) (cs' : Array Value) (b : Bool) :
    (w.setRow bx cs').cell? ⟨bi, 0, none⟩ = some (.bool false) ∧ (w.setRow bx cs').frozen? ⟨bi, 0, none⟩ = false ∧ Blk ((w.setRow bx cs').setCell ⟨bi, 0, none⟩ (.bool b)) bx 51 cs' ∧ Blk ((w.setRow bx cs').setCell ⟨bi, 0, none⟩ (.bool b)) bi 4 #[.bool b] ∧
    Only (fun b => b = bx ∨ b = bi) w ((w.setRow bx cs').setCell ⟨bi, 0, none⟩ (.bool b)) ∧ Below w0.heap.size w0 ((w.setRow bx cs').setCell ⟨bi, 0, none⟩ (.bool b)) := by
  have h1 := h.row cs'
  have hO : Only (fun b => b = bx ∨ b = bi) w ((w.setRow bx cs').setCell ⟨bi, 0, none⟩ (.bool b)) := ((only_row w bx cs').mono fun b q => .inl (.inl q)).setCell (p := ⟨bi, 0, none⟩) (.inl (.inr rfl)) _
  exact ⟨h1.i.cell 0, h1.i.frozen 0, h1.x.far (fun e => h.neb e.symm) _, h1.i.set_ 0 _, hO, h.lo.trans (hO.below h.lo.size fun b q => q.elim (fun q => by rw [q]; exact h.hx) fun q => by rw [q]; exact h.hi)⟩
theorem RS.far (h : RS bx bi p w0 cs l w) (i : Nat) (u : Value) : RS bx bi p w0 (cs.setIfInBounds i u) l (w.setCell ⟨bx, i, none⟩ u) := by
  have hO : Only (fun b => b = bx) w (w.setCell ⟨bx, i, none⟩ u) := (Only.refl (fun b => b = bx) w).setCell (p := ⟨bx, i, none⟩) (.inl rfl) _
  exact ⟨h.x.set_ i u, h.i.only hO h.neb, h.rd.rebase hO (fun e => h.nex e.symm) (fun b q => by rw [q]; exact h.hx), h.lo.trans (hO.below h.lo.size fun b q => by rw [q]; exact h.hx), h.hx, h.hi⟩
theorem store_chg_in (h : RS bx bi p w0 cs l w) (hs : cs.size = 12) (c : ChgP) (m : ChgM) :
    (Instr.storeAt 47 (.pointer (some ⟨bx, 4, none⟩)) (.agg (chgV c m))).run Tryz.prog w = .ok () (w.setCells bx 4 (chgV c m).toList) :=
  run_storeAt_mid w bx 4 47 (chgV c m) (fun j hj => ⟨by rw [h.x.cell]; rw [Array.getElem?_eq_getElem (by rw [hs]; have : (chgV c m).size = 6 := rfl; omega)]; rfl, h.x.frozen _⟩) size_chg (by simp [chgV, Value.oneCell'])
theorem RS.chg {r : RecP} {m : RecMm} (h : RS bx bi p w0 (recA r m) l w) (c : ChgP) (cm : ChgM) : RS bx bi p w0 (recA { r with chg := c } { m with cm := cm }) l (w.setCells bx 4 (chgV c cm).toList) :=
  ((((((h.far 4 _).far 5 _).far 6 _).far 7 _).far 8 _).far 9 _)
theorem setCells_only (w : World) (b : Nat) : ∀ (vs : List Value) (o : Nat), Only (fun x => x = b) w (w.setCells b o vs) := by
  intro vs
  induction vs generalizing w with
  | nil => exact fun o => Only.refl _ _
  | cons v r ih => exact fun o => ((Only.refl (fun x => x = b) w).setCell (p := ⟨b, o, none⟩) (.inl rfl) v).trans (ih _ _) fun x q => .inl q
end
section
variable {w : World} {g B : Nat} {b : Bool} {A : Option Addr} {l : List Nat} {r : RecP} {m : RecMm}
end
theorem read_sum {w : World} {B p : Nat} {l : List Nat} (h : RdE B p w l w) (hl : l.length ≤ 100000) : ∃ A c, w.cell? ⟨p, 0, none⟩ = some (.slice A l.length c) ∧
    Calls Tryz.prog 113 #[.slice (some ⟨w.heap.size, 0, none⟩) 1 1] (w.alloc (.cells #[.slice A l.length c] 45)) fun e w' => e = .returned (.int .u32 (sumB l : Nat)) ∧ w.alloc (.cells #[.slice A l.length c] 45) = w' := by
  obtain ⟨A, c, z⟩ := h
  refine ⟨A, c, z.blk.cell 0, ?_⟩
  have hB : B ≤ w.heap.size := Nat.le_trans z.bp (Nat.le_of_lt z.plt)
  have ha : At (w.alloc (.cells #[.slice A l.length c] 45)) (w.heap.size + 1) (some ⟨w.heap.size, 0, none⟩) [.slice A l.length c] := At.new w _ _ (0, 0)
  have hbb : Bytes (w.alloc (.cells #[.slice A l.length c] 45)) (w.heap.size + 1) A l := (z.by_.alloc hB _).more (by omega)
  have := sum_any (some ⟨w.heap.size, 0, none⟩) 1 [(A, c, l)] (w.heap.size + 1) _ ha (fun x hx => by
    rw [List.mem_singleton] at hx
    subst hx
    exact ⟨hbb, hl⟩) (by simp)
  have he : CrcMath.sumFrom 0 (allOf [(A, c, l)]) = sumB l := by
    unfold sumB allOf
    simp
  rw [he] at this
  exact this
set_option maxHeartbeats 16000000 in
theorem recread_any {A : Option Addr} {c : Nat} {l : List Nat} {w : World} (h : Bytes w w.heap.size A l) (hc : l.length ≤ c) (hl : l.length ≤ 100000) :
    Calls Tryz.prog 77 #[.slice A l.length c] w (ReadPost l w) := by
  have hmf : ∀ (fn : Fn) (first cap : Array Value) (w : World), (Instr.makeFunc fn first cap).run Tryz.prog w = .ok (.func fn first cap) w := fun _ _ _ _ => rfl
  have R0 : RS w.heap.size (w.heap.size + 1) (w.heap.size + 1 + 1) w (recA recZ memZ) l (((w.alloc (.cells #[.int .u8 0, .int .u32 0, .int .u64 0, .int .u64 0, .int .u32 0, .int .u16 0, .bool false, .bool false, .slice none 0 0, .slice none 0 0, .slice none 0 0, .slice none 0 0] 51)).alloc (.cells #[.bool false] 4)).alloc (.cells #[.slice A l.length c] 170)) := by
    have k1 := Blk.new w 51 (recA recZ memZ)
    have k2 := Blk.new (w.alloc (.cells (recA recZ memZ) 51)) 4 #[.bool false]
    have k3 := Blk.new ((w.alloc (.cells (recA recZ memZ) 51)).alloc (.cells #[.bool false] 4)) 170 #[.slice A l.length c]
    have b1 := below_alloc w (.cells (recA recZ memZ) 51)
    have b2 := b1.alloc b1.size (.cells #[.bool false] 4)
    have b3 := b2.alloc b2.size (.cells #[.slice A l.length c] 170)
    rw [World.size_alloc] at k2
    rw [World.size_alloc, World.size_alloc] at k3
    exact ⟨(k1.alloc _).alloc _, k2.alloc _, ⟨A, c, k3, h.below b3, hc, Only.refl _ _, by omega, k3.lt⟩, b3, Nat.le_refl _, Nat.le_succ _⟩
  go_enter_defers Tryz.func77, Tryz.ntmps77
  go_upto_region 3 with fail
  generalize World.alloc (World.alloc (World.alloc w _) _) _ = w1 at *
  clear h hmf
  generalize w.heap.size + 1 + 1 = p at *
  generalize w.heap.size + 1 = bi at *
  generalize w.heap.size = bx at *
  obtain ⟨lo, hlo⟩ : ∃ lo, w1.heap.size = lo := ⟨_, rfl⟩
  have hz1 : lo ≤ w1.heap.size := by omega
  have hxlo : bx < lo := by have := R0.x.lt; omega
  have hilo : bi < lo := by have := R0.i.lt; omega
  have hwlo : w.heap.size ≤ lo := by have := R0.lo.size; omega
  clear hlo
  have c1 := take_any 2 R0.rd hl
  go_wp2_with fail
  refine c1.mono ?_
  rintro e w2 (⟨hm2, A2, c2, rfl, -, -, h2⟩ | ⟨hm2, rfl, h2⟩)
  rotate_left
  · exact leave_bad (R0.bs rfl h2.only) (by unfold readP; rw [if_neg (by omega)]) rfl rfl
  have R2 := R0.read h2
  have hz2 := Nat.le_trans hz1 h2.only.size
  have hl2 : (l.drop 2).length ≤ 100000 := by rw [List.length_drop]; omega
  obtain ⟨s, body, -, -, sb, s1, k1, P4, N4, C4⟩ := num_step 4 (by omega) (l.drop 2) R2.rd.small hl2
  have HP : Hid (readP l = (numP 4 (l.drop 2)).bind fun s => if s.1 = sumB s.2 then (headP s.2).bind fun h => (restP h.1.1 h.2).bind fun q =>
    if q.2 = [] ∧ okR ⟨h.1.1, h.1.2.1, h.1.2.2.1, h.1.2.2.2, q.1.1, q.1.2.1, q.1.2.2⟩ = true then some ⟨h.1.1, h.1.2.1, h.1.2.2.1, h.1.2.2.2, q.1.1, q.1.2.1, q.1.2.2⟩ else none else none) := Lib.hid (by unfold readP; rw [if_pos hm2])
  have c4 := C4 _ p w2 w2 R2.rd
  clear c1 h2 R0 C4 hm2
  go_wp2_with fail
  refine c4.mono ?_
  rintro e w3 (⟨hm4, rfl, h3⟩ | ⟨hm4, rfl, h3⟩)
  rotate_left
  · exact leave_bad (R2.bs rfl h3.only) (by rw [HP.out, N4 hm4]; rfl) rfl rfl
  have R3 := R2.read h3
  have hz3 := Nat.le_trans hz2 h3.only.size
  have HP2 : Hid (readP l = if s = sumB body then (headP body).bind fun h => (restP h.1.1 h.2).bind fun q =>
    if q.2 = [] ∧ okR ⟨h.1.1, h.1.2.1, h.1.2.2.1, h.1.2.2.2, q.1.1, q.1.2.1, q.1.2.2⟩ = true then some ⟨h.1.1, h.1.2.1, h.1.2.2.1, h.1.2.2.2, q.1.1, q.1.2.1, q.1.2.2⟩ else none else none) := Lib.hid (by rw [HP.out, P4 hm4]; rfl)
  clear c4 h3 R2 P4 N4 HP hm4 hl2
  obtain ⟨A3, c3, hcell, hsum⟩ := read_sum R3.rd k1
  have R4 := R3.below (below_alloc w3 (.cells #[.slice A3 body.length c3] 45))
  have hz4 := Nat.le_trans hz3 (below_alloc w3 (.cells #[.slice A3 body.length c3] 45)).size
  have hsb := sumB_lt s1
  generalize sumB body = sm at *
  have vs : IntKind.u64.wrap (sm : Int) = (sm : Int) := by rw [IntKind.wrap_u64]; omega
  clear R3
  by_cases hss : s = sm
  rotate_left
  · have t1 : ((s : Int) != (sm : Int)) = true := by rw [bne_iff_ne]; omega
    have st := store_rec_all R4.x rfl recZ memZ
    obtain ⟨q1, q2, kx, ki, hO, lo⟩ := R4.put (recA recZ memZ) false
    have HR : Hid (ReadPost l w (.returned (.tuple #[.agg (recA recZ memZ), .bool false])) (((w3.alloc (.cells #[.slice A3 body.length c3] 45)).setRow bx (recA recZ memZ)).setCell ⟨bi, 0, none⟩ (.bool false))) := Lib.hid ⟨lo, .inr ⟨by rw [HP2.out, if_neg hss], rfl⟩⟩
    have KX := Lib.hid kx
    have KI := Lib.hid ki
    clear R4 kx ki hO lo
    go_wp2_with fail
    refine hsum.mono ?_
    rintro e w4 ⟨rfl, rfl⟩
    clear hsum
    go_wp2_with (refine wpList_store_run rfl 51 (.tmp 2) (.tmp 23) _ _ rfl rfl rfl st ?_; clear st)
    exact leave_ret KX.out KI.out HR.out rfl rfl
  · subst hss
    have t1 : ((s : Int) != (s : Int)) = false := by simp
    go_wp2_with fail
    refine hsum.mono ?_
    rintro e w4 ⟨rfl, rfl⟩
    clear hsum
    have HP3 : Hid (readP l = (headP body).bind fun h => (restP h.1.1 h.2).bind fun q =>
      if q.2 = [] ∧ okR ⟨h.1.1, h.1.2.1, h.1.2.2.1, h.1.2.2.2, q.1.1, q.1.2.1, q.1.2.2⟩ = true then some ⟨h.1.1, h.1.2.1, h.1.2.2.1, h.1.2.2.2, q.1.1, q.1.2.1, q.1.2.2⟩ else none) := Lib.hid (by rw [HP2.out, if_pos trivial])
    have PN : Hid (headP body = none → readP l = none) := Lib.hid fun q => by rw [HP3.out, q]; rfl
    obtain ⟨ka, l1, -, -, b1, s1', k1', Q1, N1, C1⟩ := num_step 1 (by omega) body s1 k1
    obtain ⟨kt, l2, -, -, b2, s2, k2, Q2, N2, C2⟩ := num_step 4 (by omega) l1 s1' k1'
    obtain ⟨kp, l3, -, -, b3, s3, k3, Q3, N3, C3⟩ := num_step 8 (by omega) l2 s2 k2
    obtain ⟨kn, l4, -, -, b4, s4, k4, Q4, N4, C4⟩ := num_step 8 (by omega) l3 s3 k3
    have M1 : Hid (body.length < 1 → headP body = none) := Lib.hid fun q => by unfold headP; rw [N1 q]; rfl
    have M2 : Hid (1 ≤ body.length → l1.length < 4 → headP body = none) := Lib.hid fun q1 q => by unfold headP; rw [Q1 q1]; show (numP 4 l1).bind _ = _; rw [N2 q]; rfl
    have M3 : Hid (1 ≤ body.length → 4 ≤ l1.length → l2.length < 8 → headP body = none) := Lib.hid fun q1 q2 q => by unfold headP; rw [Q1 q1]; show (numP 4 l1).bind _ = _; rw [Q2 q2]; show (numP 8 l2).bind _ = _; rw [N3 q]; rfl
    have M4 : Hid (1 ≤ body.length → 4 ≤ l1.length → 8 ≤ l2.length → l3.length < 8 → headP body = none) := Lib.hid fun q1 q2 q3 q => by unfold headP; rw [Q1 q1]; show (numP 4 l1).bind _ = _; rw [Q2 q2]; show (numP 8 l2).bind _ = _; rw [Q3 q3]; show (numP 8 l3).bind _ = _; rw [N4 q]; rfl
    have M5 : Hid (1 ≤ body.length → 4 ≤ l1.length → 8 ≤ l2.length → 8 ≤ l3.length → headP body = some ((ka, kt, kp, kn), l4)) := Lib.hid fun q1 q2 q3 q => by unfold headP; rw [Q1 q1]; show (numP 4 l1).bind _ = _; rw [Q2 q2]; show (numP 8 l2).bind _ = _; rw [Q3 q3]; show (numP 8 l3).bind _ = _; rw [Q4 q]; rfl
    have v1 : IntKind.u8.wrap (ka : Int) = (ka : Int) := by rw [IntKind.wrap_u8]; omega
    have v2 : (kt : Int) % 4294967296 = (kt : Int) := by omega
    have v2' : IntKind.u32.wrap (kt : Int) = (kt : Int) := by rw [IntKind.wrap_u32]; omega
    clear Q1 Q2 Q3 Q4 N1 N2 N3 N4 HP2 t1 vs hcell s1' s2 s3
    generalize World.alloc w3 _ = w4 at *
    have c1 := C1 _ p w4 w4 R4.rd
    clear C1
    go_wp2_with fail
    refine c1.mono ?_
    rintro e w5 (⟨m1, rfl, h5⟩ | ⟨m1, rfl, h5⟩)
    rotate_left
    · exact leave_bad (R4.bs rfl h5.only) (PN.out (M1.out m1)) rfl rfl
    have R5 := R4.read h5
    have hz5 := Nat.le_trans hz4 h5.only.size
    have c2 := C2 _ p w5 w5 R5.rd
    clear c1 C2 h5 R4
    go_wp2_with fail
    refine c2.mono ?_
    rintro e w6 (⟨m2, rfl, h6⟩ | ⟨m2, rfl, h6⟩)
    rotate_left
    · exact leave_bad (R5.bs rfl h6.only) (PN.out (M2.out m1 m2)) rfl rfl
    have R6 := R5.read h6
    have hz6 := Nat.le_trans hz5 h6.only.size
    have c3 := C3 _ p w6 w6 R6.rd
    clear c2 C3 h6 R5
    go_wp2_with fail
    refine c3.mono ?_
    rintro e w7 (⟨m3, rfl, h7⟩ | ⟨m3, rfl, h7⟩)
    rotate_left
    · exact leave_bad (R6.bs rfl h7.only) (PN.out (M3.out m1 m2 m3)) rfl rfl
    have R7 := R6.read h7
    have hz7 := Nat.le_trans hz6 h7.only.size
    have c4 := C4 _ p w7 w7 R7.rd
    clear c3 C4 h7 R6
    go_wp2_with fail
    refine c4.mono ?_
    rintro e w8 (⟨m4, rfl, h8⟩ | ⟨m4, rfl, h8⟩)
    rotate_left
    · exact leave_bad (R7.bs rfl h8.only) (PN.out (M4.out m1 m2 m3 m4)) rfl rfl
    have R8 := R7.read h8
    have hz8 := Nat.le_trans hz7 h8.only.size
    have HP4 : Hid (readP l = (restP ka l4).bind fun q => if q.2 = [] ∧ okR ⟨ka, kt, kp, kn, q.1.1, q.1.2.1, q.1.2.2⟩ = true then some ⟨ka, kt, kp, kn, q.1.1, q.1.2.1, q.1.2.2⟩ else none) := Lib.hid (by rw [HP3.out, M5.out m1 m2 m3 m4]; rfl)
    have st := store_rec_all R8.x rfl ⟨ka, kt, kp, kn, chgZ0, [], []⟩ memZ
    have hz9 := Nat.le_trans hz8 (only_row w8 bx (recA ⟨ka, kt, kp, kn, chgZ0, [], []⟩ memZ)).size
    have R9 := R8.row (recA ⟨ka, kt, kp, kn, chgZ0, [], []⟩ memZ)
    clear c4 h8 R7 R8 M1 M2 M3 M4 M5 PN HP3 m1 m2 m3 m4
    go_upto_block 0 with (refine wpList_store_run rfl 51 (.tmp 2) (.tmp 34) _ _ rfl rfl rfl st ?_; clear st)
    generalize World.setRow w8 _ _ = w9 at *
    dsimp only [Act.put]
    have kq : ka < 256 := b1
    have hz : chgZ0.Fits := ⟨by decide, by decide, (fun x hx => by cases hx), (fun x hx => by cases hx)⟩
    have hcz : ∀ W B, ChgAt W B chgZ0 ⟨none, 0, none, 0⟩ := fun W B => ⟨Bytes.nil _ _ _, Bytes.nil _ _ _, Nat.le_refl _, Nat.le_refl _, hz⟩
    go_cut [] from 35 to 46 (fun wx => ∃ (ch : ChgP) (tx : List TxP) (pg : List DirP) (m : RecMm) (lr : List Nat), restP ka l4 = some ((ch, tx, pg), lr) ∧ RS bx bi p w (recA ⟨ka, kt, kp, kn, ch, tx, pg⟩ m) lr wx ∧ RecFrom lo wx ⟨ka, kt, kp, kn, ch, tx, pg⟩ m)
    case first =>
      have ld := load_rec R9.x
      have cc : Calls Tryz.prog 109 #[.agg (recA ⟨ka, kt, kp, kn, chgZ0, [], []⟩ memZ)] w9 fun e w' => e = .returned (.bool (chgs ka)) ∧ Below w9.heap.size w9 w' := changes_any ⟨ka, kt, kp, kn, chgZ0, [], []⟩ memZ w9
      go_wp2_with (refine wpList_load_run rfl 51 (.tmp 2) _ _ rfl rfl ld ?_; clear ld)
      refine cc.mono ?_
      rintro e w10 ⟨rfl, b10⟩
      have R10 := R9.below b10
      have hz10 := Nat.le_trans hz9 b10.size
      clear cc b10 R9
      cases hch : chgs ka
      · have q0 : w10.cell? ⟨bx, 0, none⟩ = some (.int .u8 (ka : Nat)) := R10.x.cell 0
        by_cases h8 : ka = 8
        · have t1 : ((ka : Int) == 8) = true := by rw [beq_iff_eq]; omega
          have hR : restP ka l4 = (tabP l4).bind fun t => some ((chgZ0, t.1.1, t.1.2), t.2) := by unfold restP; rw [if_neg (by rw [hch]; simp), if_pos h8]
          have HR := Lib.hid hR
          have HK := Lib.hid h8
          have ct := rtables_any R10.rd R10.x rfl rfl R10.hx k4
          clear h8 hR hch
          go_wp2_with fail
          refine ct.mono ?_
          rintro e w11 (⟨t, d, r', htp, A3', c3', A4', c4', rfl, kx, o3, o4, ft, fd, h11, hO⟩ | ⟨hn, rfl, hk, hO⟩)
          rotate_left
          · exact leave_bad (R10.bs2 rfl hO hk) (by rw [HP4.out, HR.out, hn]; rfl) rfl rfl
          have R11 : RS bx bi p w (recA ⟨ka, kt, kp, kn, chgZ0, t, d⟩ ⟨⟨none, 0, none, 0⟩, A3', c3', A4', c4'⟩) r' w11 := ⟨kx, R10.i.only hO (fun q => q.elim R10.nei R10.neb), h11, R10.lo.trans (hO.below R10.lo.size fun b q => q.elim (fun q => by rw [q]; exact R10.rd.bp) fun q => by rw [q]; exact R10.hx), R10.hx, R10.hi⟩
          have hat : RecFrom lo w11 ⟨ka, kt, kp, kn, chgZ0, t, d⟩ ⟨⟨none, 0, none, 0⟩, A3', c3', A4', c4'⟩ := fun W hW => ⟨hcz _ _, own_txs (own_from o3 hz10 hW), own_dirs (own_from o4 hz10 hW), ⟨kq, b2, b3, b4, hz, ft, fd⟩⟩
          have FIN := Lib.hid (And.intro htp (And.intro R11 hat))
          clear ct htp kx o3 o4 ft fd h11 hO R11 hat R10
          go_wp2
          go_meet
          case rel => exact ⟨_, _, _, _, _, by rw [HR.out, FIN.out.1]; rfl, FIN.out.2.1, FIN.out.2.2⟩
        · have t1 : ((ka : Int) == 8) = false := by rw [beq_eq_false_iff_ne]; omega
          have hR : restP ka l4 = some ((chgZ0, [], []), l4) := by unfold restP; rw [if_neg (by rw [hch]; simp), if_neg h8]
          have hat : RecFrom lo w10 ⟨ka, kt, kp, kn, chgZ0, [], []⟩ memZ := fun W hW => ⟨hcz _ _, (fun j hj => absurd hj (by simp)), (fun j hj => absurd hj (by simp)), ⟨kq, b2, b3, b4, hz, (fun x hx => by cases hx), (fun x hx => by cases hx)⟩⟩
          have FIN := Lib.hid (And.intro hR (And.intro R10 hat))
          clear h8 hR hch hat R10
          go_wp2
          go_meet
          case rel => exact ⟨_, _, _, _, _, FIN.out.1, FIN.out.2.1, FIN.out.2.2⟩
      · have hR : restP ka l4 = (chgP l4).bind fun c => some ((c.1, [], []), c.2) := by unfold restP; rw [if_pos hch]
        have HR := Lib.hid hR
        have cg := rchange_any R10.rd k4
        clear hR hch
        go_wp2_with fail
        refine cg.mono ?_
        rintro e w11 (⟨ch, r', hcp, m, rfl, hnew, h11⟩ | ⟨hn, rfl, hO⟩)
        rotate_left
        · exact leave_bad (R10.bs rfl hO) (by rw [HP4.out, HR.out, hn]; rfl) rfl rfl
        have R11 := R10.read h11
        have st := store_chg_in R11 rfl ch m
        have R12 : RS bx bi p w (recA ⟨ka, kt, kp, kn, ch, [], []⟩ ⟨m, none, 0, none, 0⟩) r' (w11.setCells bx 4 (chgV ch m).toList) := R11.chg ch m
        have hO := setCells_only w11 bx (chgV ch m).toList 4
        have own1 := hO.own hnew.o1 fun k hk e => by
          rcases own_block (by decide) hnew.o1 R11.x with z | z
          · rw [z] at hk; cases hk
          · rw [e] at hk; exact z hk
        have own2 := hO.own hnew.o2 fun k hk e => by
          rcases own_block (by decide) hnew.o2 R11.x with z | z
          · rw [z] at hk; cases hk
          · rw [e] at hk; exact z hk
        have hat : RecFrom lo (w11.setCells bx 4 (chgV ch m).toList) ⟨ka, kt, kp, kn, ch, [], []⟩ ⟨m, none, 0, none, 0⟩ := fun W hW => ⟨(ChgNew.mk (own_from own1 hz10 hW) (own_from own2 hz10 hW) hnew.fits).at_, (fun j hj => absurd hj (by simp)), (fun j hj => absurd hj (by simp)), ⟨kq, b2, b3, b4, hnew.fits, (fun x hx => by cases hx), (fun x hx => by cases hx)⟩⟩
        have FIN := Lib.hid (And.intro hcp (And.intro R12 hat))
        clear cg hcp hnew h11 R11 R12 hO own1 own2 hat R10
        go_wp2_with (refine wpList_store_run rfl 47 (.tmp 40) (.tmp 39) _ _ rfl rfl rfl st ?_; clear st)
        go_meet
        case rel => exact ⟨_, _, _, _, _, by rw [HR.out, FIN.out.1]; rfl, FIN.out.2.1, FIN.out.2.2⟩
    case rest =>
      rename World => wx
      obtain ⟨ch, tx, pg, m, lr, hrp, RX, hat⟩ := hcut
      have HP5 : Hid (readP l = if lr = [] ∧ okR ⟨ka, kt, kp, kn, ch, tx, pg⟩ = true then some ⟨ka, kt, kp, kn, ch, tx, pg⟩ else none) := Lib.hid (by rw [HP4.out, hrp]; rfl)
      obtain ⟨Ar, cr, zr⟩ := RX.rd
      have hcell := zr.blk.cell 0
      clear zr hrp HP4 R9
      generalize hrec : (⟨ka, kt, kp, kn, ch, tx, pg⟩ : RecP) = r at *
      clear hrec hz hcz
      rcases Nat.eq_zero_or_pos lr.length with hn | hn
      · obtain rfl := List.eq_nil_of_length_eq_zero hn
        have ld := load_rec RX.x
        have cm := may_any r m wx.heap.size wx hat.at_ (Nat.le_refl _)
        go_wp2_with (refine wpList_load_run_g (by rfl) 51 (.tmp 2) _ _ rfl rfl ld ?_; clear ld)
        refine cm.mono ?_
        rintro e w13 ⟨rfl, b13⟩
        have RY := RX.below b13
        have hat2 := hat.only (Only.of_below b13 (fun _ => False)) fun b q => q.elim
        clear cm RX hat b13
        cases hok : okR r
        · have st := store_rec_all RY.x rfl recZ memZ
          obtain ⟨q1, q2, kx, ki, hO, lo⟩ := RY.put (recA recZ memZ) false
          have HR : Hid (ReadPost l w (.returned (.tuple #[.agg (recA recZ memZ), .bool false])) ((w13.setRow bx (recA recZ memZ)).setCell ⟨bi, 0, none⟩ (.bool false))) := Lib.hid ⟨lo, .inr ⟨by rw [HP5.out, if_neg (by rw [hok]; simp)], rfl⟩⟩
          have KX := Lib.hid kx
          have KI := Lib.hid ki
          clear RY kx ki hO lo hok hat2
          go_wp2_with (refine wpList_store_run rfl 51 (.tmp 2) (.tmp 58) _ _ rfl rfl rfl st ?_; clear st)
          exact leave_ret KX.out KI.out HR.out rfl rfl
        · have ld := load_rec RY.x
          have st := store_rec_all RY.x rfl r m
          obtain ⟨q1, q2, kx, ki, hO, lo⟩ := RY.put (recA r m) true
          have hat3 := (hat2.only hO fun b q => q.elim (fun q => by rw [q]; exact hxlo) fun q => by rw [q]; exact hilo).less hwlo
          have HR : Hid (ReadPost l w (.returned (.tuple #[.agg (recA r m), .bool true])) ((w13.setRow bx (recA r m)).setCell ⟨bi, 0, none⟩ (.bool true))) := Lib.hid ⟨lo, .inl ⟨r, m, by rw [HP5.out, if_pos ⟨by trivial, hok⟩], rfl, hat3⟩⟩
          have KX := Lib.hid kx
          have KI := Lib.hid ki
          clear RY kx ki hO lo hok hat2 hat3
          go_wp2_with (first | (refine wpList_load_run rfl 51 (.tmp 2) _ _ rfl rfl ld ?_; clear ld) | (refine wpList_store_run rfl 51 (.tmp 2) (.tmp 59) _ _ rfl rfl rfl st ?_; clear st))
          exact leave_ret KX.out KI.out HR.out rfl rfl
      · have st := store_rec_all RX.x rfl recZ memZ
        obtain ⟨q1, q2, kx, ki, hO, lo⟩ := RX.put (recA recZ memZ) false
        have HR : Hid (ReadPost l w (.returned (.tuple #[.agg (recA recZ memZ), .bool false])) ((wx.setRow bx (recA recZ memZ)).setCell ⟨bi, 0, none⟩ (.bool false))) := Lib.hid ⟨lo, .inr ⟨by rw [HP5.out, if_neg (fun q => by rw [q.1] at hn; exact absurd hn (by simp))], rfl⟩⟩
        have KX := Lib.hid kx
        have KI := Lib.hid ki
        clear RX kx ki hO lo hat
        go_wp2_with (refine wpList_store_run rfl 51 (.tmp 2) (.tmp 58) _ _ rfl rfl rfl st ?_; clear st)
        exact leave_ret KX.out KI.out HR.out rfl rfl
def decN (l : List Nat) : Nat := getL (l.take 2)
def DecPost (l : List Nat) (w : World) (e : Ending) (w' : World) : Prop :=
  Below w.heap.size w w' ∧
  (((l.length < 27 ∨ decN l = 0 ∨ l.length < decN l) ∧ e = .returned (.tuple #[.agg (recA recZ memZ), .int .i64 0, .int .u16 60])) ∨
   (27 ≤ l.length ∧ 1 ≤ decN l ∧ decN l ≤ l.length ∧
     ((readP (l.take (decN l)) = none ∧ e = .returned (.tuple #[.agg (recA recZ memZ), .int .i64 0, .int .u16 61])) ∨
      (∃ r m, readP (l.take (decN l)) = some r ∧ e = .returned (.tuple #[.agg (recA r m), .int .i64 (decN l : Nat), .int .u16 0]) ∧ RecFrom w.heap.size w' r m))))
theorem results_dec {fn : Func} {p q s : Tmp} {ty : TypeId} (h : fn.results = #[.cell p ty, .tmp q, .tmp s]) (tmps : Array Value) (w : World) (g : Nat) (u : Value)
    (hp : tmps.getD p undef = .pointer (some ⟨g, 0, none⟩)) (hl : (loadVar ty ⟨g, 0, none⟩).run Tryz.prog w = .ok u w) :
    (results fn tmps).run Tryz.prog w = .ok (.tuple #[u, tmps.getD q undef, tmps.getD s undef]) w := by
  have hp' : tmps[p]?.getD undef = .pointer (some ⟨g, 0, none⟩) := by simpa using hp
  simp [results, h, hp', asAddr, hl]
theorem store_rec_new (w : World) (r : RecP) (m : RecMm) : (Instr.storeAt 51 (.pointer (some ⟨w.heap.size, 0, none⟩)) (.agg (recA r m))).run Tryz.prog (w.alloc (.cells #[.int .u8 0, .int .u32 0, .int .u64 0, .int .u64 0, .int .u32 0, .int .u16 0, .bool false, .bool false, .slice none 0 0, .slice none 0 0, .slice none 0 0, .slice none 0 0] 51)) = .ok () (w.alloc (.cells (recA r m) 51)) :=
  run_storeAt_new w 51 _ (recA r m) size_rec rfl (by simp [recA, Value.oneCell'])
set_option maxHeartbeats 16000000 in
theorem decode_any {A : Option Addr} {c : Nat} {l : List Nat} {w : World} (h : Bytes w w.heap.size A l) (hc : l.length ≤ c) (hl : l.length ≤ 100000) :
    Calls Tryz.prog 28 #[.slice A l.length c] w (DecPost l w) := by
  have kx : Blk (w.alloc (.cells #[.int .u8 0, .int .u32 0, .int .u64 0, .int .u64 0, .int .u32 0, .int .u16 0, .bool false, .bool false, .slice none 0 0, .slice none 0 0, .slice none 0 0, .slice none 0 0] 51)) w.heap.size 51 (recA recZ memZ) := Blk.new w _ _
  have hb := below_alloc w (.cells #[.int .u8 0, .int .u32 0, .int .u64 0, .int .u64 0, .int .u32 0, .int .u16 0, .bool false, .bool false, .slice none 0 0, .slice none 0 0, .slice none 0 0, .slice none 0 0] 51)
  have hb1 := h.below hb
  have KZ : Hid (∀ W, Below w.heap.size w W → Blk W w.heap.size 51 (recA recZ memZ) → (Instr.storeAt 51 (.pointer (some ⟨w.heap.size, 0, none⟩)) (.agg (recA recZ memZ))).run Tryz.prog W = .ok () (W.setRow w.heap.size (recA recZ memZ)) ∧ Blk (W.setRow w.heap.size (recA recZ memZ)) w.heap.size 51 (recA recZ memZ) ∧ Below w.heap.size w (W.setRow w.heap.size (recA recZ memZ))) := Lib.hid fun W b k =>
    ⟨store_rec_all k rfl recZ memZ, row_blk k _, b.trans ((only_row W w.heap.size (recA recZ memZ)).below b.size fun x q => by omega)⟩
  go_enter Tryz.func28, Tryz.ntmps28
  go_upto_region 1 with fail
  generalize World.alloc w _ = w1 at *
  have hbxw := kx.lt
  generalize hbx : w.heap.size = bx at *
  have hbs : bx ≤ w1.heap.size := by omega
  rcases Nat.lt_or_ge l.length 27 with z | z
  · have t1 : decide ((l.length : Int) < 27) = true := by rw [decide_eq_true_iff]; omega
    obtain ⟨st, k2, b2⟩ := KZ.out w1 hb kx
    have FIN : Hid (DecPost l w (.returned (.tuple #[.agg (recA recZ memZ), .int .i64 0, .int .u16 60])) (w1.setRow bx (recA recZ memZ))) := Lib.hid ⟨by rw [hbx]; exact b2, .inl ⟨.inl z, rfl⟩⟩
    have K2 := Lib.hid k2
    clear kx hb1 hb z KZ k2 b2 h
    go_wp2_with (refine wpList_store_run rfl 51 (.tmp 2) (.tmp 11) _ _ rfl rfl rfl st ?_; clear st)
    refine bodyPost_ret (results_dec rfl _ _ bx _ rfl (load_whole K2.out)) rfl ?_
    exact FIN.out
  have t1 : decide ((l.length : Int) < 27) = false := by rw [decide_eq_false_iff_not]; omega
  have hAA : ∃ b o, A = some ⟨b, o, none⟩ := by
    obtain ⟨b, o, e, _⟩ := h.1 0 (by simp; omega)
    exact ⟨b, o, e⟩
  have hlm : (l.take 2).length = 2 := by rw [List.length_take]; omega
  have hget := get_any A c (l.take 2) bx w1 (hb1.take 2) (by rw [hlm]; omega) (by rw [hlm]; omega)
  have hn2 := getL_take_lt h.2 2
  rw [hlm, List.take_take, show min 8 2 = 2 from rfl] at hget
  obtain ⟨n, hn⟩ : ∃ n, getL (l.take 2) = n := ⟨_, rfl⟩
  have HN : Hid (decN l = n) := Lib.hid hn
  rw [hn] at hget hn2
  have s1 : (2 : Int) ≤ (l.length : Int) := by omega
  have s2 : (2 : Int) ≤ (c : Int) := by omega
  have vn : IntKind.i64.wrap (n : Int) = (n : Int) := by rw [IntKind.wrap_i64]; omega
  have HZ := Lib.hid z
  clear hn hlm
  by_cases hbad : n = 0 ∨ l.length < n
  · obtain ⟨st, k2, b2⟩ := KZ.out w1 hb kx
    have FIN : Hid (DecPost l w (.returned (.tuple #[.agg (recA recZ memZ), .int .i64 0, .int .u16 60])) (w1.setRow bx (recA recZ memZ))) := Lib.hid ⟨by rw [hbx]; exact b2, .inl ⟨.inr (by rw [HN.out]; exact hbad), rfl⟩⟩
    have K2 := Lib.hid k2
    clear kx hb1 hb KZ k2 b2 h
    rcases hbad with rfl | hbad
    · go_wp2_with fail
      refine hget.mono ?_
      rintro e w2 ⟨rfl, rfl⟩
      go_wp2_with (refine wpList_store_run rfl 51 (.tmp 2) (.tmp 24) _ _ rfl rfl rfl st ?_; clear st)
      refine bodyPost_ret (results_dec rfl _ _ bx _ rfl (load_whole K2.out)) rfl ?_
      exact FIN.out
    · have t2 : ((n : Int) == 0) = false := by rw [beq_eq_false_iff_ne]; omega
      have t3 : decide ((l.length : Int) < (n : Int)) = true := by rw [decide_eq_true_iff]; omega
      go_wp2_with fail
      refine hget.mono ?_
      rintro e w2 ⟨rfl, rfl⟩
      go_wp2_with (refine wpList_store_run rfl 51 (.tmp 2) (.tmp 24) _ _ rfl rfl rfl st ?_; clear st)
      refine bodyPost_ret (results_dec rfl _ _ bx _ rfl (load_whole K2.out)) rfl ?_
      exact FIN.out
  · have t2 : ((n : Int) == 0) = false := by rw [beq_eq_false_iff_ne]; omega
    have t3 : decide ((l.length : Int) < (n : Int)) = false := by rw [decide_eq_false_iff_not]; omega
    have t3' : ¬ l.length < n := by omega
    have s3 : (0 : Int) ≤ (n : Int) := by omega
    have s4 : (n : Int) ≤ (l.length : Int) := by omega
    have s5 : (n : Int) ≤ (c : Int) := by omega
    have hbt : Bytes w1 w1.heap.size A (l.take n) := (hb1.take n).more (by omega)
    have hln : (l.take n).length = n := by rw [List.length_take]; omega
    have hrd := recread_any hbt (show (l.take n).length ≤ c by omega) (by omega)
    rw [hln] at hrd
    have HB : Hid (27 ≤ l.length ∧ 1 ≤ decN l ∧ decN l ≤ l.length) := Lib.hid ⟨HZ.out, by rw [HN.out]; omega, by rw [HN.out]; omega⟩
    clear hb1 h hbad hbt hln HZ z
    go_wp2_with fail
    refine hget.mono ?_
    rintro e w2 ⟨rfl, rfl⟩
    clear hget
    go_wp2_with fail
    refine hrd.mono ?_
    rintro e w3 ⟨b3, ⟨r, m, hR, rfl, hF⟩ | ⟨hR, rfl⟩⟩
    · have kx3 := kx.below b3 hbxw
      have hb3 := hb.trans (b3.mono hbs)
      have st := store_rec_new w3 r m
      have k4 := Blk.new w3 51 (recA r m)
      have b4 := below_alloc w3 (.cells (recA r m) 51)
      have kx4 := kx3.alloc (.cells (recA r m) 51)
      have hF4 := hF.only (Only.of_below b4 (fun _ => False)) fun b q => q.elim
      have hgt := kx3.lt
      have hb4 := hb3.trans (b4.mono (Nat.le_of_lt hgt))
      have hsz4 : bx ≤ (w3.alloc (.cells (recA r m) 51)).heap.size := Nat.le_of_lt kx4.lt
      have ld := load_rec k4
      have st2 := store_rec_all kx4 rfl r m
      have hO5 := only_row (w3.alloc (.cells (recA r m) 51)) bx (recA r m)
      have hF5 := (hF4.only hO5 fun b q => by rw [q]; exact hbxw).less hbs
      have K5 := Lib.hid (row_blk kx4 (recA r m))
      have FIN : Hid (DecPost l w (.returned (.tuple #[.agg (recA r m), .int .i64 (n : Nat), .int .u16 0])) ((w3.alloc (.cells (recA r m) 51)).setRow bx (recA r m))) := Lib.hid ⟨by
        rw [hbx]
        exact hb4.trans (hO5.below hsz4 fun x q => by omega), .inr ⟨HB.out.1, HB.out.2.1, HB.out.2.2, .inr ⟨r, m, by rw [HN.out]; exact hR, by rw [HN.out], by rw [hbx]; exact hF5⟩⟩⟩
      clear hrd kx kx3 hb3 b4 hF hF4 hF5 hO5 kx4 k4 hb4 hR b3 hb KZ
      go_wp2_with (first | (refine wpList_load_run rfl 51 (.tmp 6) _ _ rfl rfl ld ?_; clear ld) | (refine wpList_store_run rfl 51 (.tmp 6) (.tmp 30) _ _ rfl rfl rfl st ?_; clear st) | (refine wpList_store_run rfl 51 (.tmp 2) (.tmp 35) _ _ rfl rfl rfl st2 ?_; clear st2))
      refine bodyPost_ret (results_dec rfl _ _ bx _ rfl (load_whole K5.out)) rfl ?_
      exact FIN.out
    · have kx3 := kx.below b3 hbxw
      have hb3 := hb.trans (b3.mono hbs)
      have st := store_rec_new w3 recZ memZ
      have b4 := below_alloc w3 (.cells (recA recZ memZ) 51)
      have kx4 := kx3.alloc (.cells (recA recZ memZ) 51)
      have hgt := kx3.lt
      have hb4 := hb3.trans (b4.mono (Nat.le_of_lt hgt))
      have hsz4 : bx ≤ (w3.alloc (.cells (recA recZ memZ) 51)).heap.size := Nat.le_of_lt kx4.lt
      have st2 := store_rec_all kx4 rfl recZ memZ
      have hO5 := only_row (w3.alloc (.cells (recA recZ memZ) 51)) bx (recA recZ memZ)
      have K5 := Lib.hid (row_blk kx4 (recA recZ memZ))
      have FIN : Hid (DecPost l w (.returned (.tuple #[.agg (recA recZ memZ), .int .i64 0, .int .u16 61])) ((w3.alloc (.cells (recA recZ memZ) 51)).setRow bx (recA recZ memZ))) := Lib.hid ⟨by
        rw [hbx]
        exact hb4.trans (hO5.below hsz4 fun x q => by omega), .inr ⟨HB.out.1, HB.out.2.1, HB.out.2.2, .inl ⟨by rw [HN.out]; exact hR, rfl⟩⟩⟩
      clear hrd kx kx3 hb3 b4 hO5 kx4 hb4 hR b3 hb KZ
      go_wp2_with (first | (refine wpList_store_run rfl 51 (.tmp 6) (.tmp 30) _ _ rfl rfl rfl st ?_; clear st) | (refine wpList_store_run rfl 51 (.tmp 2) (.tmp 34) _ _ rfl rfl rfl st2 ?_; clear st2))
      refine bodyPost_ret (results_dec rfl _ _ bx _ rfl (load_whole K5.out)) rfl ?_
      exact FIN.out
end Go.Proofs.YtkganajbilnanaaGreat
