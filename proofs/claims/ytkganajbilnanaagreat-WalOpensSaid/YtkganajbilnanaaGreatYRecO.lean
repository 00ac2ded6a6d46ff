/- What a proof's frame tells the walk of a change, of a record. Conditions: none. -/
import Derived.Test.YtkganajbilnanaaGreatYRecA
import Derived.Lib.SmallJoins
set_option linter.unusedVariables false
set_option linter.unusedSimpArgs false
namespace Go.Proofs.YtkganajbilnanaaGreat
open Go.ChangeShapes Go.WideShapes Go.ChangeAt Go.RowKit Go.Deep Go.Joins
set_option maxRecDepth 20000
theorem nat_u16 {a : Int} (h : (Lit.int .u16 a).wf = true) : ∃ n : Nat, a = n ∧ n < 65536 := by
  have := bounds_u16 h
  exact ⟨a.toNat, by omega, by omega⟩
theorem nat_u32 {a : Int} (h : (Lit.int .u32 a).wf = true) : ∃ n : Nat, a = n ∧ n < 4294967296 := by
  have := bounds_u32 h
  exact ⟨a.toNat, by omega, by omega⟩
section
variable {H : Type} {enc : TypeId × Value → H} {w : World} {base b0 fuel : Nat} {held : Bool} {v : Value} {d : DataW H} {p : List MemPlace} {x : DataW H × List MemPlace}
theorem tr8 (h : DataW.trod enc Tryz.prog w b0 (fun _ => true) held fuel 5 [v] = some x) : ∃ n : Nat, v = .int .u8 n ∧ n < 256 := by
  obtain ⟨n, hcs, _, hw⟩ := DataW.trod_int Tryz.underlying5 h
  have := wf_u8 hw
  obtain ⟨m, rfl⟩ : ∃ m : Nat, n = m := ⟨n.toNat, by omega⟩
  exact ⟨m, by simpa using hcs, by omega⟩
theorem tr16 (h : DataW.trod enc Tryz.prog w b0 (fun _ => true) held fuel 35 [v] = some x) : ∃ n : Nat, v = .int .u16 n ∧ n < 65536 := by
  obtain ⟨n, hcs, _, hw⟩ := DataW.trod_int Tryz.underlying35 h
  obtain ⟨m, rfl, hm⟩ := nat_u16 hw
  exact ⟨m, by simpa using hcs, hm⟩
theorem tr32 (h : DataW.trod enc Tryz.prog w b0 (fun _ => true) held fuel 44 [v] = some x) : ∃ n : Nat, v = .int .u32 n ∧ n < 4294967296 := by
  obtain ⟨n, hcs, _, hw⟩ := DataW.trod_int Tryz.underlying44 h
  obtain ⟨m, rfl, hm⟩ := nat_u32 hw
  exact ⟨m, by simpa using hcs, hm⟩
theorem tr64 (h : DataW.trod enc Tryz.prog w b0 (fun _ => true) held fuel 43 [v] = some x) : ∃ n : Nat, v = .int .u64 n ∧ n < 18446744073709551616 := by
  obtain ⟨n, hcs, _, hw⟩ := DataW.trod_int Tryz.underlying43 h
  obtain ⟨m, rfl, hm⟩ := nat_u64 hw
  exact ⟨m, by simpa using hcs, hm⟩
theorem trB (h : DataW.trod enc Tryz.prog w b0 (fun _ => true) held fuel 4 [v] = some x) : ∃ b : Bool, v = .bool b := by
  obtain ⟨b, hcs, _⟩ := DataW.trod_bool Tryz.underlying4 h
  exact ⟨b, by simpa using hcs⟩
theorem c8 : Tryz.prog.cellsOf 5 = 1 := by kernel_rfl
theorem c16 : Tryz.prog.cellsOf 35 = 1 := by kernel_rfl
theorem c32 : Tryz.prog.cellsOf 44 = 1 := by kernel_rfl
theorem c64 : Tryz.prog.cellsOf 43 = 1 := by kernel_rfl
theorem cBl : Tryz.prog.cellsOf 4 = 1 := by kernel_rfl
theorem cB : Tryz.prog.cellsOf 45 = 1 := by kernel_rfl
theorem cTs : Tryz.prog.cellsOf 48 = 1 := by kernel_rfl
theorem cDs : Tryz.prog.cellsOf 49 = 1 := by kernel_rfl
theorem cT : Tryz.prog.cellsOf 145 = 4 := by kernel_rfl
theorem cD : Tryz.prog.cellsOf 147 = 2 := by kernel_rfl
theorem cC : Tryz.prog.cellsOf 47 = 6 := by kernel_rfl
theorem cR : Tryz.prog.cellsOf 51 = 12 := by kernel_rfl
theorem list2 {α : Type} {l : List α} (h : l.length = 2) : ∃ a b, l = [a, b] := by
  match l, h with
  | [a, b], _ => exact ⟨a, b, rfl⟩
theorem list4 {α : Type} {l : List α} (h : l.length = 4) : ∃ a b c d, l = [a, b, c, d] := by
  match l, h with
  | [a, b, c, d], _ => exact ⟨a, b, c, d, rfl⟩
theorem field_at {fs : Array Field} {n : Nat} {cs : List Value} {xs : List (DataW H × List MemPlace)} (hg : ∀ (i : Nat) (f : Field), fs[i]? = some f → DataW.trod enc Tryz.prog w b0 (fun _ => true) held n f.type ((cs.drop f.offset).take (Tryz.prog.cellsOf f.type)) = xs[i]?)
    (i : Nat) (t : TypeId) (off k : Nat) (hf : (fs[i]?).map (fun f => (f.type, f.offset)) = some (t, off)) (hc : Tryz.prog.cellsOf t = k) (hl : i < xs.length) : ∃ y, DataW.trod enc Tryz.prog w b0 (fun _ => true) held n t ((cs.drop off).take k) = some y := by
  obtain ⟨f, h1, h2⟩ := Option.map_eq_some_iff.1 hf
  simp only [Prod.mk.injEq] at h2
  obtain ⟨rfl, rfl⟩ := h2
  have := hg i f h1
  rw [hc] at this
  exact ⟨_, this.trans (List.getElem?_eq_getElem hl)⟩
theorem chg_trod {v0 v1 v2 v3 v4 v5 : Value} (h : DataW.trod enc Tryz.prog w b0 (fun _ => true) held fuel 47 [v0, v1, v2, v3, v4, v5] = some x) : ∃ c m, [v0, v1, v2, v3, v4, v5] = (chgV c m).toList ∧ ChgAt w w.heap.size c m := by
  obtain ⟨xs, n, _, _, _, hlen, hg⟩ := DataW.trod_struct Tryz.underlying47 h
  obtain ⟨_, g0⟩ := field_at hg 0 44 0 1 rfl c32 (by rw [hlen]; decide)
  obtain ⟨_, g1⟩ := field_at hg 1 35 1 1 rfl c16 (by rw [hlen]; decide)
  obtain ⟨_, g2⟩ := field_at hg 2 4 2 1 rfl cBl (by rw [hlen]; decide)
  obtain ⟨_, g3⟩ := field_at hg 3 4 3 1 rfl cBl (by rw [hlen]; decide)
  obtain ⟨_, g4⟩ := field_at hg 4 45 4 1 rfl cB (by rw [hlen]; decide)
  obtain ⟨_, g5⟩ := field_at hg 5 45 5 1 rfl cB (by rw [hlen]; decide)
  simp only [List.drop_zero, List.drop_succ_cons, List.take_succ_cons, List.take_zero] at g0 g1 g2 g3 g4 g5
  obtain ⟨a, rfl, f0⟩ := tr32 g0
  obtain ⟨b, rfl, f1⟩ := tr16 g1
  obtain ⟨c, rfl⟩ := trB g2
  obtain ⟨e, rfl⟩ := trB g3
  obtain ⟨A1, c1, l1, rfl, h1, -, b1⟩ := bytes_trod Tryz.underlying45 Tryz.underlying5 c8 g4
  obtain ⟨A2, c2, l2, rfl, h2, -, b2⟩ := bytes_trod Tryz.underlying45 Tryz.underlying5 c8 g5
  exact ⟨⟨a, b, c, e, l1, l2⟩, ⟨A1, c1, A2, c2⟩, rfl, ⟨b1, b2, h1, h2, ⟨f0, f1, b1.2, b2.2⟩⟩⟩
theorem tx_trod {v0 v1 v2 v3 : Value} (h : DataW.trod enc Tryz.prog w b0 (fun _ => true) held fuel 145 [v0, v1, v2, v3] = some x) : ∃ y : TxP, y.Fits ∧ v0 = .int .u32 (y.txn : Nat) ∧ v1 = .int .u64 (y.last : Nat) ∧ v2 = .int .u64 (y.undo : Nat) ∧ v3 = .int .u8 (y.state : Nat) := by
  obtain ⟨xs, n, _, _, _, hlen, hg⟩ := DataW.trod_struct Tryz.underlying145 h
  obtain ⟨_, g0⟩ := field_at hg 0 44 0 1 rfl c32 (by rw [hlen]; decide)
  obtain ⟨_, g1⟩ := field_at hg 1 43 1 1 rfl c64 (by rw [hlen]; decide)
  obtain ⟨_, g2⟩ := field_at hg 2 43 2 1 rfl c64 (by rw [hlen]; decide)
  obtain ⟨_, g3⟩ := field_at hg 3 5 3 1 rfl c8 (by rw [hlen]; decide)
  simp only [List.drop_zero, List.drop_succ_cons, List.take_succ_cons, List.take_zero] at g0 g1 g2 g3
  obtain ⟨a, rfl, f0⟩ := tr32 g0
  obtain ⟨b, rfl, f1⟩ := tr64 g1
  obtain ⟨c, rfl, f2⟩ := tr64 g2
  obtain ⟨e, rfl, f3⟩ := tr8 g3
  exact ⟨⟨a, b, c, e⟩, ⟨f0, f1, f2, f3⟩, rfl, rfl, rfl, rfl⟩
instance : Inhabited TxP := ⟨⟨0, 0, 0, 0⟩⟩
instance : Inhabited DirP := ⟨⟨0, 0⟩⟩
theorem txs_trod (h : DataW.trod enc Tryz.prog w b0 (fun _ => true) held fuel 48 [v] = some x) : ∃ A c l, v = .slice A l.length c ∧ TxsAt w w.heap.size A l ∧ ∀ y ∈ l, TxP.Fits y := by
  rcases open_slice Tryz.underlying48 h with ⟨hcs, _⟩ | ⟨a, len, cap, m, n, D, Pl, hcs, _, hl, hm, hmm, _, hi⟩
  · simp only [List.cons.injEq, and_true] at hcs
    exact ⟨none, 0, [], hcs, (fun j hj => absurd hj (by simp)), (fun y hy => by cases hy)⟩
  · simp only [List.cons.injEq, and_true] at hcs
    have hlm : len ≤ m := by rw [hmm]; split <;> omega
    rw [cT] at hi
    have each : ∀ i, i < len → ∃ y : TxP, y.Fits ∧ w.cell? (a.add (i * 4)) = some (.int .u32 (y.txn : Nat)) ∧ w.cell? (a.add (i * 4 + 1)) = some (.int .u64 (y.last : Nat)) ∧ w.cell? (a.add (i * 4 + 2)) = some (.int .u64 (y.undo : Nat)) ∧ w.cell? (a.add (i * 4 + 3)) = some (.int .u8 (y.state : Nat)) := fun i hil => by
      obtain ⟨cs', hc, ht⟩ := hi i (by omega)
      obtain ⟨_, hcl, hat⟩ := World.cells?_some hc
      obtain ⟨v0, v1, v2, v3, rfl⟩ := list4 hcl
      obtain ⟨y, hy, rfl, rfl, rfl, rfl⟩ := tx_trod ht
      have hz := hat 0 (by omega)
      have h1 := hat 1 (by omega)
      have h2 := hat 2 (by omega)
      have h3 := hat 3 (by omega)
      rw [Go.Deep.add_add] at hz h1 h2 h3
      exact ⟨y, hy, hz, h1, h2, h3⟩
    obtain ⟨y, hy⟩ := choose_lt each
    refine ⟨some a, cap, (List.range len).map y, by rw [List.length_map, List.length_range]; exact hcs, fun j hj => ?_, fun z hz => ?_⟩
    · rw [List.length_map, List.length_range] at hj
      obtain ⟨_, hz, _⟩ := hy 0 (by omega)
      rw [Nat.zero_mul] at hz
      obtain ⟨b, o, rfl, hb⟩ := addr_form hz
      obtain ⟨_, c0, c1, c2, c3⟩ := hy j hj
      rw [add_none] at c0 c1 c2 c3
      rw [List.getElem_map, List.getElem_range]
      exact ⟨b, o, rfl, hb, c0, c1, c2, c3⟩
    · obtain ⟨i, hi', rfl⟩ := List.mem_map.1 hz
      exact (hy i (List.mem_range.1 hi')).1
theorem dir_trod {v0 v1 : Value} (h : DataW.trod enc Tryz.prog w b0 (fun _ => true) held fuel 147 [v0, v1] = some x) : ∃ y : DirP, y.Fits ∧ v0 = .int .u32 (y.page : Nat) ∧ v1 = .int .u64 (y.first : Nat) := by
  obtain ⟨xs, n, _, _, _, hlen, hg⟩ := DataW.trod_struct Tryz.underlying147 h
  obtain ⟨_, g0⟩ := field_at hg 0 44 0 1 rfl c32 (by rw [hlen]; decide)
  obtain ⟨_, g1⟩ := field_at hg 1 43 1 1 rfl c64 (by rw [hlen]; decide)
  simp only [List.drop_zero, List.drop_succ_cons, List.take_succ_cons, List.take_zero] at g0 g1
  obtain ⟨a, rfl, f0⟩ := tr32 g0
  obtain ⟨b, rfl, f1⟩ := tr64 g1
  exact ⟨⟨a, b⟩, ⟨f0, f1⟩, rfl, rfl⟩
theorem dirs_trod (h : DataW.trod enc Tryz.prog w b0 (fun _ => true) held fuel 49 [v] = some x) : ∃ A c l, v = .slice A l.length c ∧ DirsAt w w.heap.size A l ∧ ∀ y ∈ l, DirP.Fits y := by
  rcases open_slice Tryz.underlying49 h with ⟨hcs, _⟩ | ⟨a, len, cap, m, n, D, Pl, hcs, _, hl, hm, hmm, _, hi⟩
  · simp only [List.cons.injEq, and_true] at hcs
    exact ⟨none, 0, [], hcs, (fun j hj => absurd hj (by simp)), (fun y hy => by cases hy)⟩
  · simp only [List.cons.injEq, and_true] at hcs
    have hlm : len ≤ m := by rw [hmm]; split <;> omega
    rw [cD] at hi
    have each : ∀ i, i < len → ∃ y : DirP, y.Fits ∧ w.cell? (a.add (i * 2)) = some (.int .u32 (y.page : Nat)) ∧ w.cell? (a.add (i * 2 + 1)) = some (.int .u64 (y.first : Nat)) := fun i hil => by
      obtain ⟨cs', hc, ht⟩ := hi i (by omega)
      obtain ⟨_, hcl, hat⟩ := World.cells?_some hc
      obtain ⟨v0, v1, rfl⟩ := list2 hcl
      obtain ⟨y, hy, rfl, rfl⟩ := dir_trod ht
      have hz := hat 0 (by omega)
      have h1 := hat 1 (by omega)
      rw [Go.Deep.add_add] at hz h1
      exact ⟨y, hy, hz, h1⟩
    obtain ⟨y, hy⟩ := choose_lt each
    refine ⟨some a, cap, (List.range len).map y, by rw [List.length_map, List.length_range]; exact hcs, fun j hj => ?_, fun z hz => ?_⟩
    · rw [List.length_map, List.length_range] at hj
      obtain ⟨_, hz, _⟩ := hy 0 (by omega)
      rw [Nat.zero_mul] at hz
      obtain ⟨b, o, rfl, hb⟩ := addr_form hz
      obtain ⟨_, c0, c1⟩ := hy j hj
      rw [add_none] at c0 c1
      rw [List.getElem_map, List.getElem_range]
      exact ⟨b, o, rfl, hb, c0, c1⟩
    · obtain ⟨i, hi', rfl⟩ := List.mem_map.1 hz
      exact (hy i (List.mem_range.1 hi')).1
end
end Go.Proofs.YtkganajbilnanaaGreat
