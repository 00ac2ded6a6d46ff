/- rec: read: what it keeps, and how it leaves. Conditions: as stated. -/
import Derived.Test.YthbaoljghofkoaaRecD
namespace Go.Proofs.Ythbaoljghofkoaa
open Go.ChangeShapes Go.WideShapes Go.ChangeAt Go.RowKit
open NumMath
set_option linter.unusedVariables false
set_option linter.unusedSimpArgs false
set_option maxRecDepth 20000

def chgZ0 : ChgP := ⟨0, 0, false, false, [], []⟩
def restP (kind : Nat) (l : List Nat) : Option ((ChgP × List TxP × List DirP) × List Nat) :=
  if chgs kind = true then (chgP l).bind fun c => some ((c.1, [], []), c.2) else if kind = 8 then (tabP l).bind fun t => some ((chgZ0, t.1.1, t.1.2), t.2) else some ((chgZ0, [], []), l)
def headP (l : List Nat) : Option ((Nat × Nat × Nat × Nat) × List Nat) :=
  (numP 1 l).bind fun a => (numP 4 a.2).bind fun b => (numP 8 b.2).bind fun c => (numP 8 c.2).bind fun d => some ((a.1, b.1, c.1, d.1), d.2)
def readP (l : List Nat) : Option RecP :=
  if 2 ≤ l.length then (numP 4 (l.drop 2)).bind fun s => if s.1 = sumB s.2 then (headP s.2).bind fun h => (restP h.1.1 h.2).bind fun q =>
    if q.2 = [] ∧ okR ⟨h.1.1, h.1.2.1, h.1.2.2.1, h.1.2.2.2, q.1.1, q.1.2.1, q.1.2.2⟩ = true then some ⟨h.1.1, h.1.2.1, h.1.2.2.1, h.1.2.2.2, q.1.1, q.1.2.1, q.1.2.2⟩ else none else none
  else none
/-- what read keeps while it goes -/
structure RS (bx bi p : Nat) (w0 : World) (cs : Array Value) (l : List Nat) (w : World) : Prop where
  x : Blk w bx 31 cs
  i : Blk w bi 4 #[.bool false]
  rd : RdE w0.heap.size p w l w
  lo : Below w0.heap.size w0 w
  hx : w0.heap.size ≤ bx
  hi : w0.heap.size ≤ bi
section
variable {bx bi p : Nat} {w0 w w' : World} {cs : Array Value} {l l' : List Nat}
theorem RS.nex (h : RS bx bi p w0 cs l w) : bx ≠ p := by obtain ⟨v, hv⟩ := h.rd.blk; exact h.x.ne_ hv (by decide)
theorem RS.nei (h : RS bx bi p w0 cs l w) : bi ≠ p := by obtain ⟨v, hv⟩ := h.rd.blk; exact h.i.ne_ hv (by decide)
theorem RS.neb (h : RS bx bi p w0 cs l w) : bi ≠ bx := h.i.ne_ h.x (by decide)
theorem RS.read (h : RS bx bi p w0 cs l w) (h' : RdE w0.heap.size p w l' w') : RS bx bi p w0 cs l' w' :=
  ⟨h.x.only h'.only h.nex, h.i.only h'.only h.nei, h'.here, h.lo.trans (h'.only.below h.lo.size fun b q => by rw [q]; exact h.rd.bp), h.hx, h.hi⟩
theorem RS.below (h : RS bx bi p w0 cs l w) (hb : Below w.heap.size w w') : RS bx bi p w0 cs l w' :=
  ⟨h.x.below hb h.x.lt, h.i.below hb h.i.lt, h.rd.rebase (Only.of_below hb fun _ => False) (fun q => q) (fun b q => q.elim), h.lo.trans (hb.mono h.lo.size), h.hx, h.hi⟩
end
/-- the record's memory lies in blocks from lo on -/
def RecFrom (lo : Nat) (w : World) (r : RecP) (m : RecMm) : Prop := ∀ W : World, (∀ b, lo ≤ b → b < w.heap.size → W.heap[b]? = w.heap[b]?) → RecAt W W.heap.size r m
theorem RecFrom.at_ {lo : Nat} {w : World} {r : RecP} {m : RecMm} (h : RecFrom lo w r m) : RecAt w w.heap.size r m := h w fun _ _ _ => rfl
theorem RecFrom.only {lo : Nat} {w w' : World} {r : RecP} {m : RecMm} {S : Nat → Prop} (h : RecFrom lo w r m) (hO : Only S w w') (hS : ∀ b, S b → b < lo) : RecFrom lo w' r m := fun W hW =>
  h W fun b h1 h2 => (hW b h1 (Nat.lt_of_lt_of_le h2 hO.size)).trans (hO.block b h2 fun q => by have := hS b q; omega)
theorem RecFrom.less {lo lo' : Nat} {w : World} {r : RecP} {m : RecMm} (h : RecFrom lo w r m) (hl : lo' ≤ lo) : RecFrom lo' w r m := fun W hW => h W fun b h1 h2 => hW b (Nat.le_trans hl h1) h2
theorem own_from {lo base : Nat} {w W : World} {e : TypeId} {s : Nat} {v : Value} {n : Nat} {xs : List Value} (h : w.ownsRow base e s v n xs) (hb : lo ≤ base) (hW : ∀ b, lo ≤ b → b < w.heap.size → W.heap[b]? = w.heap[b]?) : W.ownsRow base e s v n xs := by
  refine ⟨h.1, ?_⟩
  rcases h.2 with hn | ⟨g, cap, cur, hv, hg, hh, rest⟩
  · exact .inl hn
  · refine .inr ⟨g, cap, cur, hv, hg, ?_, rest⟩
    rw [hW g (by omega) ?_]
    · exact hh
    · rcases Nat.lt_or_ge g w.heap.size with q | q
      · exact q
      · rw [Array.getElem?_eq_none q] at hh
        cases hh
def ReadPost (l : List Nat) (w : World) (e : Ending) (w' : World) : Prop :=
  Below w.heap.size w w' ∧ ((∃ r m, readP l = some r ∧ e = .returned (.tuple #[.agg (recA r m), .bool true]) ∧ RecFrom w.heap.size w' r m) ∨ (readP l = none ∧ e = .returned (.tuple #[.agg (recA recZ memZ), .bool false])))
theorem flat_get {α β : Type} (f : α → List β) (s : Nat) (hf : ∀ x, (f x).length = s) : ∀ (l : List α) (j i : Nat) (hi : i < s) (hj : j < l.length), (l.flatMap f)[j * s + i]? = (f l[j])[i]?
  | [], j, i, hi, hj => by simp at hj
  | x :: l, 0, i, hi, hj => by
    rw [List.flatMap_cons, Nat.zero_mul, Nat.zero_add, List.getElem?_append_left (by rw [hf]; exact hi)]
    rfl
  | x :: l, j + 1, i, hi, hj => by
    rw [List.flatMap_cons, List.getElem?_append_right (by rw [hf, Nat.succ_mul]; omega), hf, show (j + 1) * s + i - s = j * s + i by rw [Nat.succ_mul]; omega]
    exact flat_get f s hf l j i hi (by simpa using hj)
theorem own_cell {w : World} {base : Nat} {e : TypeId} {size : Nat} {A : Option Addr} {n c : Nat} {xs : List Value} (h : w.ownsRow base e size (.slice A n c) n xs) {j : Nat} {u : Value} (hj : xs[j]? = some u) :
    ∃ g, A = some ⟨g, 0, none⟩ ∧ g < w.heap.size ∧ w.cell? ⟨g, j, none⟩ = some u := by
  have hl := h.1
  have hjl : j < xs.length := (List.getElem?_eq_some_iff.1 hj).1
  rcases h.2 with ⟨_, rfl⟩ | ⟨g, cap, cur, hv, hg, hh, hn, hm, hs, hx⟩
  · omega
  · injection hv with h1 h2 h3
    refine ⟨g, h1, ?_, ?_⟩
    · rcases Nat.lt_or_ge g w.heap.size with q | q
      · exact q
      · rw [Array.getElem?_eq_none q] at hh
        cases hh
    · have : w.cell? ⟨g, j, none⟩ = cur[j]? := by simp [World.cell?, hh]
      rw [this, ← Array.getElem?_toList, ← hj, ← hx, List.getElem?_take_of_lt (by omega)]
theorem own_txs {w : World} {base : Nat} {A : Option Addr} {n c : Nat} {t : List TxP} (h : w.ownsRow base 64 4 (.slice A n c) n (txCells t)) : TxsAt w w.heap.size A t := fun j hj => by
  have key : ∀ i u, i < 4 → (txV t[j]).toList[i]? = some u → ∃ g, A = some ⟨g, 0, none⟩ ∧ g < w.heap.size ∧ w.cell? ⟨g, j * 4 + i, none⟩ = some u := fun i u hi hu => own_cell h (by
    unfold txCells
    rw [flat_get _ 4 (fun _ => rfl) t j i hi hj]
    exact hu)
  obtain ⟨g, e, hg, c0⟩ := key 0 _ (by omega) rfl
  obtain ⟨g1, e1, _, c1⟩ := key 1 _ (by omega) rfl
  obtain ⟨g2, e2, _, c2⟩ := key 2 _ (by omega) rfl
  obtain ⟨g3, e3, _, c3⟩ := key 3 _ (by omega) rfl
  rw [e] at e1 e2 e3
  injection e1 with e1; injection e1 with e1; subst e1
  injection e2 with e2; injection e2 with e2; subst e2
  injection e3 with e3; injection e3 with e3; subst e3
  exact ⟨g, 0, e, hg, by rw [Nat.zero_add]; exact c0, by rw [Nat.zero_add]; exact c1, by rw [Nat.zero_add]; exact c2, by rw [Nat.zero_add]; exact c3⟩
theorem own_dirs {w : World} {base : Nat} {A : Option Addr} {n c : Nat} {t : List DirP} (h : w.ownsRow base 66 2 (.slice A n c) n (dirCells t)) : DirsAt w w.heap.size A t := fun j hj => by
  have key : ∀ i u, i < 2 → (dirV t[j]).toList[i]? = some u → ∃ g, A = some ⟨g, 0, none⟩ ∧ g < w.heap.size ∧ w.cell? ⟨g, j * 2 + i, none⟩ = some u := fun i u hi hu => own_cell h (by
    unfold dirCells
    rw [flat_get _ 2 (fun _ => rfl) t j i hi hj]
    exact hu)
  obtain ⟨g, e, hg, c0⟩ := key 0 _ (by omega) rfl
  obtain ⟨g1, e1, _, c1⟩ := key 1 _ (by omega) rfl
  rw [e] at e1
  injection e1 with e1; injection e1 with e1; subst e1
  exact ⟨g, 0, e, hg, by rw [Nat.zero_add]; exact c0, by rw [Nat.zero_add]; exact c1⟩
/-- the result's two boxes, whatever is in them -/
structure BS (bx bi : Nat) (w0 w : World) : Prop where
  x : ∃ cs, cs.size = 12 ∧ Blk w bx 31 cs
  i : ∃ v, Blk w bi 4 #[v]
  lo : Below w0.heap.size w0 w
  hx : w0.heap.size ≤ bx
  hi : w0.heap.size ≤ bi
section
variable {bx bi p : Nat} {w0 w w' : World} {cs : Array Value} {l l' l0 : List Nat} {tmps : Array Value} {r : RecP} {m : RecMm} {b : Bool}
theorem RS.bs (h : RS bx bi p w0 cs l w) (hs : cs.size = 12) (hO : Only (fun b => b = p) w w') : BS bx bi w0 w' :=
  ⟨⟨cs, hs, h.x.only hO h.nex⟩, ⟨_, h.i.only hO h.nei⟩, h.lo.trans (hO.below h.lo.size fun b q => by rw [q]; exact h.rd.bp), h.hx, h.hi⟩
theorem RS.bs2 (h : RS bx bi p w0 cs l w) (hs : cs.size = 12) (hO : Only (fun b => b = p ∨ b = bx) w w') (hk : ∃ cs', cs'.size = cs.size ∧ Blk w' bx 31 cs') : BS bx bi w0 w' := by
  obtain ⟨cs', e, k⟩ := hk
  exact ⟨⟨cs', e.trans hs, k⟩, ⟨_, h.i.only hO fun q => q.elim h.nei h.neb⟩, h.lo.trans (hO.below h.lo.size fun b q => q.elim (fun q => by rw [q]; exact h.rd.bp) fun q => by rw [q]; exact h.hx), h.hx, h.hi⟩
theorem leave_bad (h : BS bx bi w0 w) (hn : readP l0 = none) (t2 : tmps.getD 2 undef = .pointer (some ⟨bx, 0, none⟩)) (t3 : tmps.getD 3 undef = .pointer (some ⟨bi, 0, none⟩)) :
    Leaves Try.prog Try.f34 tmps (ReadPost l0 w0) [{ target := .fn (.func 45) #[.pointer (some ⟨bx, 0, none⟩), .pointer (some ⟨bi, 0, none⟩)], args := #[] }] (.panicking BadP) w := by
  obtain ⟨⟨cs, hs, kx⟩, ⟨v, ki⟩, lo, hx, hi⟩ := h
  refine leaves_cons (f := 45) (args := #[.pointer (some ⟨bx, 0, none⟩), .pointer (some ⟨bi, 0, none⟩)]) (by simp) (by simp [go_sem]) ?_
  refine (catch_bad kx hs ki).mono ?_
  rintro e u' w' ⟨rfl, rfl, k1, k2, hO⟩
  refine ⟨_, results_rec rfl tmps w' bx bi _ _ t2 (load_whole k1) t3 (load_bool k2), lo.trans (hO.below lo.size fun b q => q.elim (fun q => by rw [q]; exact hx) fun q => by rw [q]; exact hi), .inr ⟨hn, rfl⟩⟩
theorem leave_ret (kx : Blk w bx 31 (recA r m)) (ki : Blk w bi 4 #[.bool b]) (hR : ReadPost l0 w0 (.returned (.tuple #[.agg (recA r m), .bool b])) w) (t2 : tmps.getD 2 undef = .pointer (some ⟨bx, 0, none⟩)) (t3 : tmps.getD 3 undef = .pointer (some ⟨bi, 0, none⟩)) :
    Leaves Try.prog Try.f34 tmps (ReadPost l0 w0) [{ target := .fn (.func 45) #[.pointer (some ⟨bx, 0, none⟩), .pointer (some ⟨bi, 0, none⟩)], args := #[] }] .returning w := by
  refine leaves_cons (f := 45) (args := #[.pointer (some ⟨bx, 0, none⟩), .pointer (some ⟨bi, 0, none⟩)]) (by simp) (by simp [go_sem]) ?_
  refine catch_idle.mono ?_
  rintro e u' w' ⟨rfl, rfl, rfl⟩
  exact ⟨_, results_rec rfl tmps w' bx bi _ _ t2 (load_whole kx) t3 (load_bool ki), hR⟩
end

theorem wpList_load_run_g {P : Program} {w : World} {ops : Array Oper} {rest : List Oper} {o : Oper} {a : Act} {Q : Exit → Act → World → Prop} (hw : Region.wanted o (yielded ops a.tmps) = true) (t : TypeId) (x : Operand) (X v : Value) (ho : o.op = .load t x) (hx : a.eval x = X)
    (hr : (Instr.loadAt t X).run P w = .ok v w) (h : wpList P ops Q rest (a.put o.dst v) w) : wpList P ops Q (o :: rest) a w :=
  wpList_step fun K hK => by
    rw [if_pos hw]
    exact wp_load_run t x X v ho hx hr (hK _ _ h)
section
variable {bx bi p : Nat} {w0 w w' : World} {cs : Array Value} {l l' l0 : List Nat}
theorem RS.row (h : RS bx bi p w0 cs l w) (cs' : Array Value) : RS bx bi p w0 cs' l (w.setRow bx cs') := by
  have hO := only_row w bx cs'
  exact ⟨row_blk h.x cs', h.i.only hO h.neb, h.rd.rebase hO (fun e => h.nex e.symm) (fun b q => by rw [q]; exact h.hx), h.lo.trans (hO.below h.lo.size fun b q => by rw [q]; exact h.hx), h.hx, h.hi⟩
/-- what read leaves: both results stored -/
theorem RS.put (h : RS bx bi p w0 cs l w) (cs' : Array Value) (b : Bool) :
    (w.setRow bx cs').cell? ⟨bi, 0, none⟩ = some (.bool false) ∧ (w.setRow bx cs').frozen? ⟨bi, 0, none⟩ = false ∧ Blk ((w.setRow bx cs').setCell ⟨bi, 0, none⟩ (.bool b)) bx 31 cs' ∧ Blk ((w.setRow bx cs').setCell ⟨bi, 0, none⟩ (.bool b)) bi 4 #[.bool b] ∧
    Only (fun b => b = bx ∨ b = bi) w ((w.setRow bx cs').setCell ⟨bi, 0, none⟩ (.bool b)) ∧ Below w0.heap.size w0 ((w.setRow bx cs').setCell ⟨bi, 0, none⟩ (.bool b)) := by
  have h1 := h.row cs'
  have hO : Only (fun b => b = bx ∨ b = bi) w ((w.setRow bx cs').setCell ⟨bi, 0, none⟩ (.bool b)) := ((only_row w bx cs').mono fun b q => .inl (.inl q)).setCell (p := ⟨bi, 0, none⟩) (.inl (.inr rfl)) _
  exact ⟨h1.i.cell 0, h1.i.frozen 0, h1.x.far (fun e => h.neb e.symm) _, h1.i.set_ 0 _, hO, h.lo.trans (hO.below h.lo.size fun b q => q.elim (fun q => by rw [q]; exact h.hx) fun q => by rw [q]; exact h.hi)⟩
theorem RS.far (h : RS bx bi p w0 cs l w) (i : Nat) (u : Value) : RS bx bi p w0 (cs.setIfInBounds i u) l (w.setCell ⟨bx, i, none⟩ u) := by
  have hO : Only (fun b => b = bx) w (w.setCell ⟨bx, i, none⟩ u) := (Only.refl (fun b => b = bx) w).setCell (p := ⟨bx, i, none⟩) (.inl rfl) _
  exact ⟨h.x.set_ i u, h.i.only hO h.neb, h.rd.rebase hO (fun e => h.nex e.symm) (fun b q => by rw [q]; exact h.hx), h.lo.trans (hO.below h.lo.size fun b q => by rw [q]; exact h.hx), h.hx, h.hi⟩
/-- the change, stored into the record -/
theorem store_chg_in (h : RS bx bi p w0 cs l w) (hs : cs.size = 12) (c : ChgP) (m : ChgM) :
    (Instr.storeAt 27 (.pointer (some ⟨bx, 4, none⟩)) (.agg (chgV c m))).run Try.prog w = .ok () (w.setCells bx 4 (chgV c m).toList) :=
  run_storeAt_mid w bx 4 27 (chgV c m) (fun j hj => ⟨by rw [h.x.cell]; rw [Array.getElem?_eq_getElem (by rw [hs]; have : (chgV c m).size = 6 := rfl; omega)]; rfl, h.x.frozen _⟩) size_chg (by simp [chgV, Value.oneCell'])
theorem RS.chg {r : RecP} {m : RecMm} (h : RS bx bi p w0 (recA r m) l w) (c : ChgP) (cm : ChgM) : RS bx bi p w0 (recA { r with chg := c } { m with cm := cm }) l (w.setCells bx 4 (chgV c cm).toList) :=
  ((((((h.far 4 _).far 5 _).far 6 _).far 7 _).far 8 _).far 9 _)
theorem setCells_only (w : World) (b : Nat) : ∀ (vs : List Value) (o : Nat), Only (fun x => x = b) w (w.setCells b o vs) := by
  intro vs
  induction vs generalizing w with
  | nil => exact fun o => Only.refl _ _
  | cons v r ih => exact fun o => ((Only.refl (fun x => x = b) w).setCell (p := ⟨b, o, none⟩) (.inl rfl) v).trans (ih _ _) fun x q => .inl q
end

theorem setRow_same {w : World} {g : Nat} {t : TypeId} {cs : Array Value} (h : Blk w g t cs) : ∀ a, (w.setRow g cs).cell? a = w.cell? a := fun a => by
  have k := row_blk h cs
  by_cases e : a.block = g
  · unfold World.cell?
    rw [e, show (w.setRow g cs).heap[g]? = _ from k, show w.heap[g]? = _ from h]
  · exact World.cell?_of_block (setRow_other w g a.block cs e)
theorem cell_bool {w : World} {g : Nat} {b : Bool} (h : Blk w g 4 #[.bool b]) {a : Addr} {v : Value} (hc : w.cell? a = some v) (hv : v ≠ .bool b) (u : Value) (ha : a.spot = none) : (w.setCell ⟨g, 0, none⟩ u).cell? a = some v := by
  rw [World.cell?_setCell_other _ _ _ _ ?_]
  · exact hc
  · intro e
    rw [← e, h.cell 0] at hc
    injection hc with hc
    exact hv hc.symm
section
variable {w : World} {g B : Nat} {b : Bool} {A : Option Addr} {l : List Nat} {r : RecP} {m : RecMm}
theorem Bytes.setBool (h : Bytes w B A l) (hb : Blk w g 4 #[.bool b]) (u : Value) : Bytes (w.setCell ⟨g, 0, none⟩ u) B A l := ⟨fun j hj => by
  obtain ⟨q, o, e, hq, hc⟩ := h.1 j hj
  refine ⟨q, o, e, hq, cell_bool hb hc ?_ u rfl⟩
  rw [List.getElem_map]
  simp [byteV], h.2⟩
theorem TxsAt.setBool {t : List TxP} (h : TxsAt w B A t) (hb : Blk w g 4 #[.bool b]) (u : Value) : TxsAt (w.setCell ⟨g, 0, none⟩ u) B A t := fun j hj => by
  obtain ⟨q, o, e, hq, c0, c1, c2, c3⟩ := h j hj
  exact ⟨q, o, e, hq, cell_bool hb c0 (by simp) u rfl, cell_bool hb c1 (by simp) u rfl, cell_bool hb c2 (by simp) u rfl, cell_bool hb c3 (by simp) u rfl⟩
theorem DirsAt.setBool {t : List DirP} (h : DirsAt w B A t) (hb : Blk w g 4 #[.bool b]) (u : Value) : DirsAt (w.setCell ⟨g, 0, none⟩ u) B A t := fun j hj => by
  obtain ⟨q, o, e, hq, c0, c1⟩ := h j hj
  exact ⟨q, o, e, hq, cell_bool hb c0 (by simp) u rfl, cell_bool hb c1 (by simp) u rfl⟩
theorem RecAt.setBool (h : RecAt w B r m) (hb : Blk w g 4 #[.bool b]) (u : Value) : RecAt (w.setCell ⟨g, 0, none⟩ u) B r m :=
  ⟨⟨h.chg.bef.setBool hb u, h.chg.aft.setBool hb u, h.chg.cap1, h.chg.cap2, h.chg.fits⟩, h.txs.setBool hb u, h.dirs.setBool hb u, h.fits⟩
theorem Bytes.cells {w' : World} (h : Bytes w B A l) (hc : ∀ a, w'.cell? a = w.cell? a) : Bytes w' B A l := ⟨fun j hj => by
  obtain ⟨q, o, e, hq, c⟩ := h.1 j hj
  exact ⟨q, o, e, hq, (hc _).trans c⟩, h.2⟩
theorem RecAt.cells {w' : World} (h : RecAt w B r m) (hc : ∀ a, w'.cell? a = w.cell? a) : RecAt w' B r m :=
  ⟨⟨h.chg.bef.cells hc, h.chg.aft.cells hc, h.chg.cap1, h.chg.cap2, h.chg.fits⟩, fun j hj => by
    obtain ⟨q, o, e, hq, c0, c1, c2, c3⟩ := h.txs j hj
    exact ⟨q, o, e, hq, (hc _).trans c0, (hc _).trans c1, (hc _).trans c2, (hc _).trans c3⟩, fun j hj => by
    obtain ⟨q, o, e, hq, c0, c1⟩ := h.dirs j hj
    exact ⟨q, o, e, hq, (hc _).trans c0, (hc _).trans c1⟩, h.fits⟩
end
end Go.Proofs.Ythbaoljghofkoaa
