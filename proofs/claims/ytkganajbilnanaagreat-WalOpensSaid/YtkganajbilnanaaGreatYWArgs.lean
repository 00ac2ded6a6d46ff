/- What a proof's frame tells the walk of wal's calls that come in as a slice. Conditions: none. -/
import Derived.Test.YtkganajbilnanaaGreatYWOp
set_option linter.unusedVariables false
set_option linter.unusedSimpArgs false
namespace Go.Proofs.YtkganajbilnanaaGreat
open Go.ChangeShapes Go.WideShapes Go.RowKit Go.Deep Go.Joins
set_option maxRecDepth 20000
def IsOps8 (w : World) (v : Value) : Prop := ∃ A c l, v = .slice A l.length c ∧ WOpsAt w w.heap.size A l
theorem cF8 : Tryz.prog.cellsOf 52 = 1 := by kernel_rfl
theorem cOp8 : Tryz.prog.cellsOf 54 = 16 := by kernel_rfl
section
variable {H : Type} {enc : TypeId × Value → H} {w : World} {base b0 fuel : Nat} {held : Bool} {v : Value} {d : DataW H} {p : List MemPlace} {x : DataW H × List MemPlace}
theorem rec_trod8 {v0 v1 v2 v3 v4 v5 v6 v7 v8 v9 v10 v11 : Value} (hf' : DataW.trod enc Tryz.prog w b0 (fun _ => true) held fuel 51 [v0, v1, v2, v3, v4, v5, v6, v7, v8, v9, v10, v11] = some x) : ∃ r m, [v0, v1, v2, v3, v4, v5, v6, v7, v8, v9, v10, v11] = (recA r m).toList ∧ RecAt w w.heap.size r m := by
  obtain ⟨xs, n, _, _, _, hlen, hg⟩ := DataW.trod_struct Tryz.underlying51 hf'
  obtain ⟨_, g0⟩ := field_at hg 0 5 0 1 rfl c8 (by rw [hlen]; decide)
  obtain ⟨_, g1⟩ := field_at hg 1 44 1 1 rfl c32 (by rw [hlen]; decide)
  obtain ⟨_, g2⟩ := field_at hg 2 43 2 1 rfl c64 (by rw [hlen]; decide)
  obtain ⟨_, g3⟩ := field_at hg 3 43 3 1 rfl c64 (by rw [hlen]; decide)
  obtain ⟨_, g4⟩ := field_at hg 4 47 4 6 rfl cC (by rw [hlen]; decide)
  obtain ⟨_, g5⟩ := field_at hg 5 48 10 1 rfl cTs (by rw [hlen]; decide)
  obtain ⟨_, g6⟩ := field_at hg 6 49 11 1 rfl cDs (by rw [hlen]; decide)
  simp only [List.drop_zero, List.drop_succ_cons, List.take_succ_cons, List.take_zero] at g0 g1 g2 g3 g4 g5 g6
  obtain ⟨a, rfl, f0⟩ := tr8 g0
  obtain ⟨b, rfl, f1⟩ := tr32 g1
  obtain ⟨c, rfl, f2⟩ := tr64 g2
  obtain ⟨e, rfl, f3⟩ := tr64 g3
  obtain ⟨ch, m, hce, hc⟩ := chg_trod g4
  obtain ⟨A3, c3, ts, rfl, ht, hft⟩ := txs_trod g5
  obtain ⟨A4, c4, ds, rfl, hd, hfd⟩ := dirs_trod g6
  simp only [chgV, List.cons.injEq, and_true] at hce
  obtain ⟨rfl, rfl, rfl, rfl, rfl, rfl⟩ := hce
  exact ⟨⟨a, b, c, e, ch, ts, ds⟩, ⟨m, A3, c3, A4, c4⟩, rfl, ⟨hc, ht, hd, ⟨f0, f1, f2, f3, hc.fits, hft, hfd⟩⟩⟩
theorem list16 {α : Type} {l : List α} (h : l.length = 16) : ∃ a b c d e f g h' i j k m n o p q, l = [a, b, c, d, e, f, g, h', i, j, k, m, n, o, p, q] := by
  match l, h with
  | [a, b, c, d, e, f, g, h', i, j, k, m, n, o, p, q], _ => exact ⟨a, b, c, d, e, f, g, h', i, j, k, m, n, o, p, q, rfl⟩
theorem op8_trod {cs : List Value} (hl : cs.length = 16) (h : DataW.trod enc Tryz.prog w b0 (fun _ => true) held fuel 54 cs = some x) : ∃ (y : WOp) (m : RecMm) (Af : Option Addr) (cf : Nat), cs = wopA y m Af cf ∧ WOpV w w.heap.size y m Af cf := by
  obtain ⟨v0, v1, v2, v3, v4, v5, v6, v7, v8, v9, v10, v11, v12, v13, v14, v15, rfl⟩ := list16 hl
  obtain ⟨xs, n, _, _, _, hlen, hg⟩ := DataW.trod_struct Tryz.underlying54 h
  obtain ⟨_, g0⟩ := field_at hg 0 5 0 1 rfl c8 (by rw [hlen]; decide)
  obtain ⟨_, g1⟩ := field_at hg 1 51 1 12 rfl cR (by rw [hlen]; decide)
  obtain ⟨_, g2⟩ := field_at hg 2 43 13 1 rfl c64 (by rw [hlen]; decide)
  obtain ⟨_, g3⟩ := field_at hg 3 43 14 1 rfl c64 (by rw [hlen]; decide)
  obtain ⟨_, g4⟩ := field_at hg 4 52 15 1 rfl cF8 (by rw [hlen]; decide)
  simp only [List.drop_zero, List.drop_succ_cons, List.take_succ_cons, List.take_zero] at g0 g1 g2 g3 g4
  obtain ⟨k, rfl, f0⟩ := tr8 g0
  obtain ⟨r, m, hr, hra⟩ := rec_trod8 g1
  obtain ⟨sp, rfl, f2⟩ := tr64 g2
  obtain ⟨at', rfl, f3⟩ := tr64 g3
  obtain ⟨Af, cf, fs, rfl, hfs⟩ := fates_trod g4
  refine ⟨⟨k, r, sp, at', fs⟩, m, Af, cf, ?_, hra, hfs, f0, f2, f3⟩
  unfold wopA
  rw [← hr]
  rfl
theorem ops8_trod (h : DataW.trod enc Tryz.prog w b0 (fun _ => true) held fuel 23 [v] = some x) : IsOps8 w v := by
  rcases open_slice Tryz.underlying23 h with ⟨hcs, _⟩ | ⟨a, len, cap, m, n, D, Pl, hcs, _, hl, hm, hmm, _, hi⟩
  · simp only [List.cons.injEq, and_true] at hcs
    exact ⟨none, 0, [], hcs, fun j hj => absurd hj (by simp)⟩
  · simp only [List.cons.injEq, and_true] at hcs
    have hlm : len ≤ m := by rw [hmm]; split <;> omega
    rw [cOp8] at hi
    have each : ∀ i, i < len → ∃ y : WOp, ∃ m Af cf, WOpV w w.heap.size y m Af cf ∧ ∀ j v, (wopA y m Af cf)[j]? = some v → w.cell? (a.add (i * 16 + j)) = some v := fun i hil => by
      obtain ⟨cs', hc, ht⟩ := hi i (by omega)
      obtain ⟨_, hcl, hat⟩ := World.cells?_some hc
      obtain ⟨y, m, Af, cf, rfl, hy⟩ := op8_trod hcl ht
      refine ⟨y, m, Af, cf, hy, fun j v hj => ?_⟩
      have hj16 : j < 16 := (List.getElem?_eq_some_iff.1 hj).1
      have := hat j hj16
      rw [Go.Deep.add_add] at this
      rw [this]
      exact hj
    obtain ⟨y, hy⟩ := choose_lt each
    refine ⟨some a, cap, (List.range len).map y, by rw [List.length_map, List.length_range]; exact hcs, fun j hj => ?_⟩
    rw [List.length_map, List.length_range] at hj
    obtain ⟨m0, Af0, cf0, hv0, hz⟩ := hy 0 (by omega)
    have hz0 := hz 0 _ rfl
    rw [Nat.zero_mul] at hz0
    obtain ⟨b, o, rfl, hb⟩ := addr_form hz0
    obtain ⟨m, Af, cf, hv, hc⟩ := hy j hj
    rw [List.getElem_map, List.getElem_range]
    refine ⟨b, o, m, Af, cf, rfl, hb, fun i v hiv => ?_, hv⟩
    have := hc i v hiv
    rw [add_none] at this
    rw [Nat.add_assoc]
    exact this
theorem is_Ops8 (hv : Value.okWide Tryz.prog w .any base 23 v) (h : DataW.Trod enc Tryz.prog w 0 (fun _ => true) held 23 v d p) : IsOps8 w v := by
  obtain ⟨a, len, cap, rfl⟩ := okWide_slice Tryz.underlying23 hv
  obtain ⟨fuel, hf⟩ := h
  exact ops8_trod (by simpa [Value.cells] using hf)
end
end Go.Proofs.YtkganajbilnanaaGreat
