/- What a proof's frame tells the walk of fates and of calls that come in as slices. Conditions: none. -/
import Derived.Test.YtnbbneldbagohaaDiskArgs
namespace Go.Proofs.Ytnbbneldbagohaa
open Go.ChangeShapes Go.WideShapes Go.RowKit Go.Deep Go.Joins
set_option linter.unusedVariables false
set_option linter.unusedSimpArgs false
set_option maxRecDepth 20000

/-- a call -/
structure OpP where
  kind : Nat
  file : Nat
  sector : Int
  data : List Nat
  fates : List FateP
instance : Inhabited FateP := ⟨⟨0, 0, 0, 0⟩⟩
instance : Inhabited OpP := ⟨⟨0, 0, 0, [], []⟩⟩
/-- a call's five values -/
def OpV (w : World) (B : Nat) (x : OpP) (v0 v1 v2 v3 v4 : Value) : Prop :=
  v0 = .int .u8 (x.kind : Int) ∧ v1 = .int .u8 (x.file : Int) ∧ v2 = .int .i64 x.sector ∧ (∃ A c, v3 = .slice A x.data.length c ∧ x.data.length ≤ c ∧ Bytes w B A x.data) ∧ (∃ A c, v4 = .slice A x.fates.length c ∧ FatesAt w B A x.fates) ∧ x.kind < 256 ∧ x.file < 256 ∧ (Lit.int .i64 x.sector).wf = true
theorem OpV.below {w w' : World} {B : Nat} {x : OpP} {v0 v1 v2 v3 v4 : Value} (h : OpV w B x v0 v1 v2 v3 v4) (hb : Below B w w') : OpV w' B x v0 v1 v2 v3 v4 := by
  obtain ⟨e0, e1, e2, ⟨A, c, e3, h1, h2⟩, ⟨A', c', e4, h3⟩, r⟩ := h
  exact ⟨e0, e1, e2, ⟨A, c, e3, h1, h2.below hb⟩, ⟨A', c', e4, h3.below hb⟩, r⟩
/-- a slice of calls -/
def OpsAt (w : World) (B : Nat) (A : Option Addr) (l : List OpP) : Prop :=
  ∀ j (h : j < l.length), ∃ b o v0 v1 v2 v3 v4, A = some ⟨b, o, none⟩ ∧ b < B ∧ w.cell? ⟨b, o + j * 5, none⟩ = some v0 ∧ w.cell? ⟨b, o + j * 5 + 1, none⟩ = some v1 ∧ w.cell? ⟨b, o + j * 5 + 2, none⟩ = some v2 ∧ w.cell? ⟨b, o + j * 5 + 3, none⟩ = some v3 ∧ w.cell? ⟨b, o + j * 5 + 4, none⟩ = some v4 ∧ OpV w B l[j] v0 v1 v2 v3 v4
theorem OpsAt.below {w w' : World} {B : Nat} {A : Option Addr} {l : List OpP} (h : OpsAt w B A l) (hb : Below B w w') : OpsAt w' B A l := fun j hj => by
  obtain ⟨b, o, v0, v1, v2, v3, v4, e, h0, c0, c1, c2, c3, c4, hv⟩ := h j hj
  exact ⟨b, o, v0, v1, v2, v3, v4, e, h0, (hb.cell (p := ⟨b, _, none⟩) h0).trans c0, (hb.cell (p := ⟨b, _, none⟩) h0).trans c1, (hb.cell (p := ⟨b, _, none⟩) h0).trans c2, (hb.cell (p := ⟨b, _, none⟩) h0).trans c3, (hb.cell (p := ⟨b, _, none⟩) h0).trans c4, hv.below hb⟩
def IsFates (w : World) (v : Value) : Prop := ∃ A c l, v = .slice A l.length c ∧ FatesAt w w.heap.size A l
def IsOps (w : World) (v : Value) : Prop := ∃ A c l, v = .slice A l.length c ∧ OpsAt w w.heap.size A l
theorem fates_of {w : World} {a : Addr} {n : Nat} {y : Nat → FateP} (h : ∀ i, i < n → (y i).file < 256 ∧ ∀ j, j < 4 → w.cell? (a.add (i * 4 + j)) = (fateCells (y i))[j]?) : FatesAt w w.heap.size (some a) ((List.range n).map y) := by
  refine ⟨fun j hj => ?_, fun x hx => ?_⟩
  · rw [flat_length, List.length_map, List.length_range] at hj
    have hn : 0 < n := by omega
    have h0 := (h 0 hn).2 0 (by omega)
    rw [Nat.zero_mul, Nat.zero_add] at h0
    obtain ⟨b, o, rfl, hb⟩ := addr_form (v := .int .u8 ((y 0).file : Int)) h0
    have hi : j / 4 < ((List.range n).map y).length := by simp; omega
    have hm : j % 4 < 4 := by omega
    have hc := (h (j / 4) (by omega)).2 (j % 4) hm
    rw [add_none, show j / 4 * 4 + j % 4 = j by omega] at hc
    refine ⟨b, o, rfl, hb, ?_⟩
    rw [hc, ← List.getElem?_eq_getElem]
    obtain ⟨f0, f1, f2, f3⟩ := flat_at hi
    simp only [List.getElem_map, List.getElem_range] at f0 f1 f2 f3
    rcases (show j % 4 = 0 ∨ j % 4 = 1 ∨ j % 4 = 2 ∨ j % 4 = 3 by omega) with e | e | e | e
    · rw [e]; conv => rhs; rw [show j = 4 * (j / 4) by omega]
      rw [f0]; rfl
    · rw [e]; conv => rhs; rw [show j = 4 * (j / 4) + 1 by omega]
      rw [f1]; rfl
    · rw [e]; conv => rhs; rw [show j = 4 * (j / 4) + 2 by omega]
      rw [f2]; rfl
    · rw [e]; conv => rhs; rw [show j = 4 * (j / 4) + 3 by omega]
      rw [f3]; rfl
  · obtain ⟨i, hi, rfl⟩ := List.mem_map.1 hx
    exact (h i (List.mem_range.1 hi)).1
section
variable {H : Type} {enc : TypeId × Value → H} {w : World} {base b0 fuel : Nat} {held : Bool} {v : Value} {d : DataW H} {p : List MemPlace} {x : DataW H × List MemPlace}
theorem fates_trod (h : DataW.trod enc Try.prog w b0 (fun _ => true) held fuel 34 [v] = some x) : IsFates w v := by
  rcases open_slice Try.underlying34 h with ⟨hcs, _⟩ | ⟨a, len, cap, m, n, D, Pl, hcs, _, hl, hm, hmm, _, hi⟩
  · simp only [List.cons.injEq, and_true] at hcs
    exact ⟨none, 0, [], hcs, At.nil _ _ _, fun x hx => by cases hx⟩
  · simp only [List.cons.injEq, and_true] at hcs
    have hlm : len ≤ m := by rw [hmm]; split <;> omega
    rw [cFate] at hi
    have each : ∀ i, i < len → ∃ y : FateP, y.file < 256 ∧ ∀ j, j < 4 → w.cell? (a.add (i * 4 + j)) = (fateCells y)[j]? := fun i hil => by
      obtain ⟨cs', hc, ht⟩ := hi i (by omega)
      obtain ⟨_, hcl, hat⟩ := World.cells?_some hc
      obtain ⟨v0, v1, v2, v3, rfl⟩ := list4 hcl
      obtain ⟨y, e, hy⟩ := fate_trod ht
      refine ⟨y, hy, fun j hj => ?_⟩
      rw [← e, ← Go.Deep.add_add, hat j hj]
    obtain ⟨y, hy⟩ := choose_lt each
    exact ⟨some a, cap, (List.range len).map y, by rw [List.length_map, List.length_range]; exact hcs, fates_of hy⟩
theorem is_Fates (hv : Value.okWide Try.prog w .any base 34 v) (h : DataW.Trod enc Try.prog w 0 (fun _ => true) held 34 v d p) : IsFates w v := by
  obtain ⟨a, len, cap, rfl⟩ := okWide_slice Try.underlying34 hv
  obtain ⟨fuel, hf⟩ := h
  exact fates_trod (by simpa [Value.cells] using hf)
theorem cB : Try.prog.cellsOf 28 = 1 := by kernel_rfl
theorem cL : Try.prog.cellsOf 34 = 1 := by kernel_rfl
theorem cOp : Try.prog.cellsOf 41 = 5 := by kernel_rfl
theorem list5 {α : Type} {l : List α} (h : l.length = 5) : ∃ a b c d e, l = [a, b, c, d, e] := by
  match l, h with
  | [a, b, c, d, e], _ => exact ⟨a, b, c, d, e, rfl⟩
theorem op_trod {v0 v1 v2 v3 v4 : Value} (h : DataW.trod enc Try.prog w b0 (fun _ => true) held fuel 41 [v0, v1, v2, v3, v4] = some x) : ∃ y : OpP, OpV w w.heap.size y v0 v1 v2 v3 v4 := by
  obtain ⟨xs, n, _, _, _, hlen, hg⟩ := DataW.trod_struct Try.underlying41 h
  obtain ⟨_, g0⟩ := field_at hg 0 5 0 1 rfl c8 (by rw [hlen]; decide)
  obtain ⟨_, g1⟩ := field_at hg 1 5 1 1 rfl c8 (by rw [hlen]; decide)
  obtain ⟨_, g2⟩ := field_at hg 2 3 2 1 rfl cI (by rw [hlen]; decide)
  obtain ⟨_, g3⟩ := field_at hg 3 28 3 1 rfl cB (by rw [hlen]; decide)
  obtain ⟨_, g4⟩ := field_at hg 4 34 4 1 rfl cL (by rw [hlen]; decide)
  simp only [List.drop_zero, List.drop_succ_cons, List.take_succ_cons, List.take_zero] at g0 g1 g2 g3 g4
  obtain ⟨a, rfl, f0⟩ := tr8 g0
  obtain ⟨b, rfl, f1⟩ := tr8 g1
  obtain ⟨c, rfl, f2⟩ := trI g2
  obtain ⟨A, c3, l, e3, h3, -, h4⟩ := bytes_trod Try.underlying28 Try.underlying5 c8 g3
  obtain ⟨A', c4, m, e4, h5⟩ := fates_trod g4
  exact ⟨⟨a, b, c, l, m⟩, rfl, rfl, rfl, ⟨A, c3, e3, h3, h4⟩, ⟨A', c4, e4, h5⟩, f0, f1, f2⟩
theorem ops_trod (h : DataW.trod enc Try.prog w b0 (fun _ => true) held fuel 37 [v] = some x) : IsOps w v := by
  rcases open_slice Try.underlying37 h with ⟨hcs, _⟩ | ⟨a, len, cap, m, n, D, Pl, hcs, _, hl, hm, hmm, _, hi⟩
  · simp only [List.cons.injEq, and_true] at hcs
    exact ⟨none, 0, [], hcs, fun j hj => absurd hj (by simp)⟩
  · simp only [List.cons.injEq, and_true] at hcs
    have hlm : len ≤ m := by rw [hmm]; split <;> omega
    rw [cOp] at hi
    have each : ∀ i, i < len → ∃ y : OpP, ∃ v0 v1 v2 v3 v4, OpV w w.heap.size y v0 v1 v2 v3 v4 ∧ w.cell? (a.add (i * 5)) = some v0 ∧ w.cell? (a.add (i * 5 + 1)) = some v1 ∧ w.cell? (a.add (i * 5 + 2)) = some v2 ∧ w.cell? (a.add (i * 5 + 3)) = some v3 ∧ w.cell? (a.add (i * 5 + 4)) = some v4 := fun i hil => by
      obtain ⟨cs', hc, ht⟩ := hi i (by omega)
      obtain ⟨_, hcl, hat⟩ := World.cells?_some hc
      obtain ⟨v0, v1, v2, v3, v4, rfl⟩ := list5 hcl
      obtain ⟨y, hy⟩ := op_trod ht
      have hz := hat 0 (by omega)
      have h1 := hat 1 (by omega)
      have h2 := hat 2 (by omega)
      have h3 := hat 3 (by omega)
      have h4 := hat 4 (by omega)
      rw [Go.Deep.add_add] at hz h1 h2 h3 h4
      exact ⟨y, v0, v1, v2, v3, v4, hy, hz, h1, h2, h3, h4⟩
    obtain ⟨y, hy⟩ := choose_lt each
    refine ⟨some a, cap, (List.range len).map y, by rw [List.length_map, List.length_range]; exact hcs, fun j hj => ?_⟩
    rw [List.length_map, List.length_range] at hj
    obtain ⟨_, _, _, _, _, _, hz, _⟩ := hy 0 (by omega)
    rw [Nat.zero_mul] at hz
    obtain ⟨b, o, rfl, hb⟩ := addr_form hz
    obtain ⟨v0, v1, v2, v3, v4, hv, c0, c1, c2, c3, c4⟩ := hy j hj
    rw [add_none] at c0 c1 c2 c3 c4
    rw [List.getElem_map, List.getElem_range]
    exact ⟨b, o, v0, v1, v2, v3, v4, rfl, hb, c0, c1, c2, c3, c4, hv⟩
theorem is_Ops (hv : Value.okWide Try.prog w .any base 37 v) (h : DataW.Trod enc Try.prog w 0 (fun _ => true) held 37 v d p) : IsOps w v := by
  obtain ⟨a, len, cap, rfl⟩ := okWide_slice Try.underlying37 hv
  obtain ⟨fuel, hf⟩ := h
  exact ops_trod (by simpa [Value.cells] using hf)
end
end Go.Proofs.Ytnbbneldbagohaa
