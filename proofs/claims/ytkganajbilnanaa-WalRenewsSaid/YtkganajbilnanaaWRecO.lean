/- What a proof's frame tells the walk of a change, of a record. Conditions: none. -/
import Derived.Test.YtkganajbilnanaaWBase
import Derived.Test.YtkganajbilnanaaWRecA
import Derived.Lib.SmallJoins
namespace Go.Proofs.Ytkganajbilnanaa
open Go.ChangeShapes Go.WideShapes Go.ChangeAt Go.RowKit Go.Deep Go.Joins
set_option linter.unusedVariables false
set_option linter.unusedSimpArgs false
set_option maxRecDepth 20000

def IsChange (w : World) (v : Value) : Prop := ∃ c m, v = .agg (chgV c m) ∧ ChgAt w w.heap.size c m
def IsRec (w : World) (v : Value) : Prop := ∃ r m, v = .agg (recA r m) ∧ RecAt w w.heap.size r m
theorem nat_u16 {a : Int} (h : (Lit.int .u16 a).wf = true) : ∃ n : Nat, a = n ∧ n < 65536 := by
  have := bounds_u16 h
  exact ⟨a.toNat, by omega, by omega⟩
theorem nat_u32 {a : Int} (h : (Lit.int .u32 a).wf = true) : ∃ n : Nat, a = n ∧ n < 4294967296 := by
  have := bounds_u32 h
  exact ⟨a.toNat, by omega, by omega⟩
section
variable {H : Type} {enc : TypeId × Value → H} {w : World} {base b0 fuel : Nat} {held : Bool} {v : Value} {d : DataW H} {p : List MemPlace} {x : DataW H × List MemPlace}
theorem tr8 (h : DataW.trod enc Try.prog w b0 (fun _ => true) held fuel 5 [v] = some x) : ∃ n : Nat, v = .int .u8 n ∧ n < 256 := by
  obtain ⟨n, hcs, _, hw⟩ := DataW.trod_int Try.underlying5 h
  have := wf_u8 hw
  obtain ⟨m, rfl⟩ : ∃ m : Nat, n = m := ⟨n.toNat, by omega⟩
  exact ⟨m, by simpa using hcs, by omega⟩
theorem tr16 (h : DataW.trod enc Try.prog w b0 (fun _ => true) held fuel 25 [v] = some x) : ∃ n : Nat, v = .int .u16 n ∧ n < 65536 := by
  obtain ⟨n, hcs, _, hw⟩ := DataW.trod_int Try.underlying25 h
  obtain ⟨m, rfl, hm⟩ := nat_u16 hw
  exact ⟨m, by simpa using hcs, hm⟩
theorem tr32 (h : DataW.trod enc Try.prog w b0 (fun _ => true) held fuel 23 [v] = some x) : ∃ n : Nat, v = .int .u32 n ∧ n < 4294967296 := by
  obtain ⟨n, hcs, _, hw⟩ := DataW.trod_int Try.underlying23 h
  obtain ⟨m, rfl, hm⟩ := nat_u32 hw
  exact ⟨m, by simpa using hcs, hm⟩
theorem tr64 (h : DataW.trod enc Try.prog w b0 (fun _ => true) held fuel 24 [v] = some x) : ∃ n : Nat, v = .int .u64 n ∧ n < 18446744073709551616 := by
  obtain ⟨n, hcs, _, hw⟩ := DataW.trod_int Try.underlying24 h
  obtain ⟨m, rfl, hm⟩ := nat_u64 hw
  exact ⟨m, by simpa using hcs, hm⟩
theorem trB (h : DataW.trod enc Try.prog w b0 (fun _ => true) held fuel 4 [v] = some x) : ∃ b : Bool, v = .bool b := by
  obtain ⟨b, hcs, _⟩ := DataW.trod_bool Try.underlying4 h
  exact ⟨b, by simpa using hcs⟩
theorem c8 : Try.prog.cellsOf 5 = 1 := by kernel_rfl
theorem c16 : Try.prog.cellsOf 25 = 1 := by kernel_rfl
theorem c32 : Try.prog.cellsOf 23 = 1 := by kernel_rfl
theorem c64 : Try.prog.cellsOf 24 = 1 := by kernel_rfl
theorem cBl : Try.prog.cellsOf 4 = 1 := by kernel_rfl
theorem cB : Try.prog.cellsOf 26 = 1 := by kernel_rfl
theorem cTs : Try.prog.cellsOf 29 = 1 := by kernel_rfl
theorem cDs : Try.prog.cellsOf 30 = 1 := by kernel_rfl
theorem cT : Try.prog.cellsOf 102 = 4 := by kernel_rfl
theorem cD : Try.prog.cellsOf 104 = 2 := by kernel_rfl
theorem cC : Try.prog.cellsOf 28 = 6 := by kernel_rfl
theorem cR : Try.prog.cellsOf 32 = 12 := by kernel_rfl
theorem list2 {α : Type} {l : List α} (h : l.length = 2) : ∃ a b, l = [a, b] := by
  match l, h with
  | [a, b], _ => exact ⟨a, b, rfl⟩
theorem list4 {α : Type} {l : List α} (h : l.length = 4) : ∃ a b c d, l = [a, b, c, d] := by
  match l, h with
  | [a, b, c, d], _ => exact ⟨a, b, c, d, rfl⟩
theorem list6 {α : Type} {l : List α} (h : l.length = 6) : ∃ a b c d e f, l = [a, b, c, d, e, f] := by
  match l, h with
  | [a, b, c, d, e, f], _ => exact ⟨a, b, c, d, e, f, rfl⟩
theorem list12 {α : Type} {l : List α} (h : l.length = 12) : ∃ a b c d e f g h' i j k m, l = [a, b, c, d, e, f, g, h', i, j, k, m] := by
  match l, h with
  | [a, b, c, d, e, f, g, h', i, j, k, m], _ => exact ⟨a, b, c, d, e, f, g, h', i, j, k, m, rfl⟩
theorem field_at {fs : Array Field} {n : Nat} {cs : List Value} {xs : List (DataW H × List MemPlace)} (hg : ∀ (i : Nat) (f : Field), fs[i]? = some f → DataW.trod enc Try.prog w b0 (fun _ => true) held n f.type ((cs.drop f.offset).take (Try.prog.cellsOf f.type)) = xs[i]?)
    (i : Nat) (t : TypeId) (off k : Nat) (hf : (fs[i]?).map (fun f => (f.type, f.offset)) = some (t, off)) (hc : Try.prog.cellsOf t = k) (hl : i < xs.length) : ∃ y, DataW.trod enc Try.prog w b0 (fun _ => true) held n t ((cs.drop off).take k) = some y := by
  obtain ⟨f, h1, h2⟩ := Option.map_eq_some_iff.1 hf
  simp only [Prod.mk.injEq] at h2
  obtain ⟨rfl, rfl⟩ := h2
  have := hg i f h1
  rw [hc] at this
  exact ⟨_, this.trans (List.getElem?_eq_getElem hl)⟩
theorem chg_trod {v0 v1 v2 v3 v4 v5 : Value} (h : DataW.trod enc Try.prog w b0 (fun _ => true) held fuel 28 [v0, v1, v2, v3, v4, v5] = some x) : ∃ c m, [v0, v1, v2, v3, v4, v5] = (chgV c m).toList ∧ ChgAt w w.heap.size c m := by
  obtain ⟨xs, n, _, _, _, hlen, hg⟩ := DataW.trod_struct Try.underlying28 h
  obtain ⟨_, g0⟩ := field_at hg 0 23 0 1 rfl c32 (by rw [hlen]; decide)
  obtain ⟨_, g1⟩ := field_at hg 1 25 1 1 rfl c16 (by rw [hlen]; decide)
  obtain ⟨_, g2⟩ := field_at hg 2 4 2 1 rfl cBl (by rw [hlen]; decide)
  obtain ⟨_, g3⟩ := field_at hg 3 4 3 1 rfl cBl (by rw [hlen]; decide)
  obtain ⟨_, g4⟩ := field_at hg 4 26 4 1 rfl cB (by rw [hlen]; decide)
  obtain ⟨_, g5⟩ := field_at hg 5 26 5 1 rfl cB (by rw [hlen]; decide)
  simp only [List.drop_zero, List.drop_succ_cons, List.take_succ_cons, List.take_zero] at g0 g1 g2 g3 g4 g5
  obtain ⟨a, rfl, f0⟩ := tr32 g0
  obtain ⟨b, rfl, f1⟩ := tr16 g1
  obtain ⟨c, rfl⟩ := trB g2
  obtain ⟨e, rfl⟩ := trB g3
  obtain ⟨A1, c1, l1, rfl, h1, -, b1⟩ := bytes_trod Try.underlying26 Try.underlying5 c8 g4
  obtain ⟨A2, c2, l2, rfl, h2, -, b2⟩ := bytes_trod Try.underlying26 Try.underlying5 c8 g5
  exact ⟨⟨a, b, c, e, l1, l2⟩, ⟨A1, c1, A2, c2⟩, rfl, ⟨b1, b2, h1, h2, ⟨f0, f1, b1.2, b2.2⟩⟩⟩
theorem is_Change (hv : Value.okWide Try.prog w .any base 28 v) (h : DataW.Trod enc Try.prog w 0 (fun _ => true) held 28 v d p) : IsChange w v := by
  obtain ⟨⟨l⟩, rfl, hsz⟩ := okWide_struct Try.underlying28 hv
  obtain ⟨v0, v1, v2, v3, v4, v5, rfl⟩ := list6 (hsz.trans cC)
  obtain ⟨fuel, hf⟩ := h
  obtain ⟨c, m, e, hc⟩ := chg_trod (by simpa [Value.cells] using hf)
  exact ⟨c, m, by rw [e], hc⟩
theorem tx_trod {v0 v1 v2 v3 : Value} (h : DataW.trod enc Try.prog w b0 (fun _ => true) held fuel 102 [v0, v1, v2, v3] = some x) : ∃ y : TxP, y.Fits ∧ v0 = .int .u32 (y.txn : Nat) ∧ v1 = .int .u64 (y.last : Nat) ∧ v2 = .int .u64 (y.undo : Nat) ∧ v3 = .int .u8 (y.state : Nat) := by
  obtain ⟨xs, n, _, _, _, hlen, hg⟩ := DataW.trod_struct Try.underlying102 h
  obtain ⟨_, g0⟩ := field_at hg 0 23 0 1 rfl c32 (by rw [hlen]; decide)
  obtain ⟨_, g1⟩ := field_at hg 1 24 1 1 rfl c64 (by rw [hlen]; decide)
  obtain ⟨_, g2⟩ := field_at hg 2 24 2 1 rfl c64 (by rw [hlen]; decide)
  obtain ⟨_, g3⟩ := field_at hg 3 5 3 1 rfl c8 (by rw [hlen]; decide)
  simp only [List.drop_zero, List.drop_succ_cons, List.take_succ_cons, List.take_zero] at g0 g1 g2 g3
  obtain ⟨a, rfl, f0⟩ := tr32 g0
  obtain ⟨b, rfl, f1⟩ := tr64 g1
  obtain ⟨c, rfl, f2⟩ := tr64 g2
  obtain ⟨e, rfl, f3⟩ := tr8 g3
  exact ⟨⟨a, b, c, e⟩, ⟨f0, f1, f2, f3⟩, rfl, rfl, rfl, rfl⟩
instance : Inhabited TxP := ⟨⟨0, 0, 0, 0⟩⟩
instance : Inhabited DirP := ⟨⟨0, 0⟩⟩
theorem txs_trod (h : DataW.trod enc Try.prog w b0 (fun _ => true) held fuel 29 [v] = some x) : ∃ A c l, v = .slice A l.length c ∧ TxsAt w w.heap.size A l ∧ ∀ y ∈ l, TxP.Fits y := by
  rcases open_slice Try.underlying29 h with ⟨hcs, _⟩ | ⟨a, len, cap, m, n, D, Pl, hcs, _, hl, hm, hmm, _, hi⟩
  · simp only [List.cons.injEq, and_true] at hcs
    exact ⟨none, 0, [], hcs, (fun j hj => absurd hj (by simp)), (fun y hy => by cases hy)⟩
  · simp only [List.cons.injEq, and_true] at hcs
    have hlm : len ≤ m := by rw [hmm]; split <;> omega
    rw [cT] at hi
    have each : ∀ i, i < len → ∃ y : TxP, y.Fits ∧ w.cell? (a.add (i * 4)) = some (.int .u32 (y.txn : Nat)) ∧ w.cell? (a.add (i * 4 + 1)) = some (.int .u64 (y.last : Nat)) ∧ w.cell? (a.add (i * 4 + 2)) = some (.int .u64 (y.undo : Nat)) ∧ w.cell? (a.add (i * 4 + 3)) = some (.int .u8 (y.state : Nat)) := fun i hil => by
      obtain ⟨cs', hc, ht⟩ := hi i (by omega)
      obtain ⟨_, hcl, hat⟩ := World.cells?_some hc
      obtain ⟨v0, v1, v2, v3, rfl⟩ := list4 hcl
      obtain ⟨y, hy, rfl, rfl, rfl, rfl⟩ := tx_trod ht
      have hz := hat 0 (by omega)
      have h1 := hat 1 (by omega)
      have h2 := hat 2 (by omega)
      have h3 := hat 3 (by omega)
      rw [Go.Deep.add_add] at hz h1 h2 h3
      exact ⟨y, hy, hz, h1, h2, h3⟩
    obtain ⟨y, hy⟩ := choose_lt each
    refine ⟨some a, cap, (List.range len).map y, by rw [List.length_map, List.length_range]; exact hcs, fun j hj => ?_, fun z hz => ?_⟩
    · rw [List.length_map, List.length_range] at hj
      obtain ⟨_, hz, _⟩ := hy 0 (by omega)
      rw [Nat.zero_mul] at hz
      obtain ⟨b, o, rfl, hb⟩ := addr_form hz
      obtain ⟨_, c0, c1, c2, c3⟩ := hy j hj
      rw [add_none] at c0 c1 c2 c3
      rw [List.getElem_map, List.getElem_range]
      exact ⟨b, o, rfl, hb, c0, c1, c2, c3⟩
    · obtain ⟨i, hi', rfl⟩ := List.mem_map.1 hz
      exact (hy i (List.mem_range.1 hi')).1
theorem dir_trod {v0 v1 : Value} (h : DataW.trod enc Try.prog w b0 (fun _ => true) held fuel 104 [v0, v1] = some x) : ∃ y : DirP, y.Fits ∧ v0 = .int .u32 (y.page : Nat) ∧ v1 = .int .u64 (y.first : Nat) := by
  obtain ⟨xs, n, _, _, _, hlen, hg⟩ := DataW.trod_struct Try.underlying104 h
  obtain ⟨_, g0⟩ := field_at hg 0 23 0 1 rfl c32 (by rw [hlen]; decide)
  obtain ⟨_, g1⟩ := field_at hg 1 24 1 1 rfl c64 (by rw [hlen]; decide)
  simp only [List.drop_zero, List.drop_succ_cons, List.take_succ_cons, List.take_zero] at g0 g1
  obtain ⟨a, rfl, f0⟩ := tr32 g0
  obtain ⟨b, rfl, f1⟩ := tr64 g1
  exact ⟨⟨a, b⟩, ⟨f0, f1⟩, rfl, rfl⟩
theorem dirs_trod (h : DataW.trod enc Try.prog w b0 (fun _ => true) held fuel 30 [v] = some x) : ∃ A c l, v = .slice A l.length c ∧ DirsAt w w.heap.size A l ∧ ∀ y ∈ l, DirP.Fits y := by
  rcases open_slice Try.underlying30 h with ⟨hcs, _⟩ | ⟨a, len, cap, m, n, D, Pl, hcs, _, hl, hm, hmm, _, hi⟩
  · simp only [List.cons.injEq, and_true] at hcs
    exact ⟨none, 0, [], hcs, (fun j hj => absurd hj (by simp)), (fun y hy => by cases hy)⟩
  · simp only [List.cons.injEq, and_true] at hcs
    have hlm : len ≤ m := by rw [hmm]; split <;> omega
    rw [cD] at hi
    have each : ∀ i, i < len → ∃ y : DirP, y.Fits ∧ w.cell? (a.add (i * 2)) = some (.int .u32 (y.page : Nat)) ∧ w.cell? (a.add (i * 2 + 1)) = some (.int .u64 (y.first : Nat)) := fun i hil => by
      obtain ⟨cs', hc, ht⟩ := hi i (by omega)
      obtain ⟨_, hcl, hat⟩ := World.cells?_some hc
      obtain ⟨v0, v1, rfl⟩ := list2 hcl
      obtain ⟨y, hy, rfl, rfl⟩ := dir_trod ht
      have hz := hat 0 (by omega)
      have h1 := hat 1 (by omega)
      rw [Go.Deep.add_add] at hz h1
      exact ⟨y, hy, hz, h1⟩
    obtain ⟨y, hy⟩ := choose_lt each
    refine ⟨some a, cap, (List.range len).map y, by rw [List.length_map, List.length_range]; exact hcs, fun j hj => ?_, fun z hz => ?_⟩
    · rw [List.length_map, List.length_range] at hj
      obtain ⟨_, hz, _⟩ := hy 0 (by omega)
      rw [Nat.zero_mul] at hz
      obtain ⟨b, o, rfl, hb⟩ := addr_form hz
      obtain ⟨_, c0, c1⟩ := hy j hj
      rw [add_none] at c0 c1
      rw [List.getElem_map, List.getElem_range]
      exact ⟨b, o, rfl, hb, c0, c1⟩
    · obtain ⟨i, hi', rfl⟩ := List.mem_map.1 hz
      exact (hy i (List.mem_range.1 hi')).1
theorem is_Rec (hv : Value.okWide Try.prog w .any base 32 v) (h : DataW.Trod enc Try.prog w 0 (fun _ => true) held 32 v d p) : IsRec w v := by
  obtain ⟨⟨l⟩, rfl, hsz⟩ := okWide_struct Try.underlying32 hv
  obtain ⟨v0, v1, v2, v3, v4, v5, v6, v7, v8, v9, v10, v11, rfl⟩ := list12 (hsz.trans cR)
  obtain ⟨fuel, hf⟩ := h
  have hf' : DataW.trod enc Try.prog w 0 (fun _ => true) held fuel 32 [v0, v1, v2, v3, v4, v5, v6, v7, v8, v9, v10, v11] = some (d, p) := by simpa [Value.cells] using hf
  obtain ⟨xs, n, _, _, _, hlen, hg⟩ := DataW.trod_struct Try.underlying32 hf'
  obtain ⟨_, g0⟩ := field_at hg 0 5 0 1 rfl c8 (by rw [hlen]; decide)
  obtain ⟨_, g1⟩ := field_at hg 1 23 1 1 rfl c32 (by rw [hlen]; decide)
  obtain ⟨_, g2⟩ := field_at hg 2 24 2 1 rfl c64 (by rw [hlen]; decide)
  obtain ⟨_, g3⟩ := field_at hg 3 24 3 1 rfl c64 (by rw [hlen]; decide)
  obtain ⟨_, g4⟩ := field_at hg 4 28 4 6 rfl cC (by rw [hlen]; decide)
  obtain ⟨_, g5⟩ := field_at hg 5 29 10 1 rfl cTs (by rw [hlen]; decide)
  obtain ⟨_, g6⟩ := field_at hg 6 30 11 1 rfl cDs (by rw [hlen]; decide)
  simp only [List.drop_zero, List.drop_succ_cons, List.take_succ_cons, List.take_zero] at g0 g1 g2 g3 g4 g5 g6
  obtain ⟨a, rfl, f0⟩ := tr8 g0
  obtain ⟨b, rfl, f1⟩ := tr32 g1
  obtain ⟨c, rfl, f2⟩ := tr64 g2
  obtain ⟨e, rfl, f3⟩ := tr64 g3
  obtain ⟨ch, m, hce, hc⟩ := chg_trod g4
  obtain ⟨A3, c3, ts, rfl, ht, hft⟩ := txs_trod g5
  obtain ⟨A4, c4, ds, rfl, hd, hfd⟩ := dirs_trod g6
  simp only [chgV, List.cons.injEq, and_true] at hce
  obtain ⟨rfl, rfl, rfl, rfl, rfl, rfl⟩ := hce
  exact ⟨⟨a, b, c, e, ch, ts, ds⟩, ⟨m, A3, c3, A4, c4⟩, rfl, ⟨hc, ht, hd, ⟨f0, f1, f2, f3, hc.fits, hft, hfd⟩⟩⟩
end
end Go.Proofs.Ytkganajbilnanaa
