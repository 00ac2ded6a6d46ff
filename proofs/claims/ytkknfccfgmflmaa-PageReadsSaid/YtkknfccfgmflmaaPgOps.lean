/- What a proof's frame tells the walk of a page's calls that come in as a slice; heavy. Conditions: none. -/
import Derived.Test.YtkknfccfgmflmaaArgs
import Derived.Test.YtkknfccfgmflmaaPgLaw1
import Derived.Lib.SmallJoins
namespace Go.Proofs.Ytkknfccfgmflmaa
open Go.ChangeShapes Go.WideShapes Go.ChangeAt Go.RowKit Go.Deep Go.Joins
set_option linter.unusedVariables false
set_option linter.unusedSimpArgs false
set_option maxRecDepth 20000

/-- a call -/
structure OpP where
  kind : Nat
  slot : Int
  data : List Nat
  lsn : Nat
instance : Inhabited OpP := ⟨⟨0, 0, [], 0⟩⟩
def OpV (w : World) (B : Nat) (x : OpP) (v0 v1 v2 v3 : Value) : Prop :=
  v0 = .int .u8 (x.kind : Int) ∧ v1 = .int .i64 x.slot ∧ (∃ A c, v2 = .slice A x.data.length c ∧ x.data.length ≤ c ∧ Bytes w B A x.data) ∧ v3 = .int .u64 (x.lsn : Int) ∧ x.kind < 256 ∧ (Lit.int .i64 x.slot).wf = true ∧ x.lsn < 18446744073709551616
theorem OpV.below {w w' : World} {B : Nat} {x : OpP} {v0 v1 v2 v3 : Value} (h : OpV w B x v0 v1 v2 v3) (hb : Below B w w') : OpV w' B x v0 v1 v2 v3 := by
  obtain ⟨e0, e1, ⟨A, c, e3, h1, h2⟩, r⟩ := h
  exact ⟨e0, e1, ⟨A, c, e3, h1, h2.below hb⟩, r⟩
def OpsAt (w : World) (B : Nat) (A : Option Addr) (l : List OpP) : Prop :=
  ∀ j (h : j < l.length), ∃ b o v0 v1 v2 v3, A = some ⟨b, o, none⟩ ∧ b < B ∧ w.cell? ⟨b, o + j * 4, none⟩ = some v0 ∧ w.cell? ⟨b, o + j * 4 + 1, none⟩ = some v1 ∧ w.cell? ⟨b, o + j * 4 + 2, none⟩ = some v2 ∧ w.cell? ⟨b, o + j * 4 + 3, none⟩ = some v3 ∧ OpV w B l[j] v0 v1 v2 v3
theorem OpsAt.below {w w' : World} {B : Nat} {A : Option Addr} {l : List OpP} (h : OpsAt w B A l) (hb : Below B w w') : OpsAt w' B A l := fun j hj => by
  obtain ⟨b, o, v0, v1, v2, v3, e, h0, c0, c1, c2, c3, hv⟩ := h j hj
  exact ⟨b, o, v0, v1, v2, v3, e, h0, (hb.cell (p := ⟨b, _, none⟩) h0).trans c0, (hb.cell (p := ⟨b, _, none⟩) h0).trans c1, (hb.cell (p := ⟨b, _, none⟩) h0).trans c2, (hb.cell (p := ⟨b, _, none⟩) h0).trans c3, hv.below hb⟩
def IsOps (w : World) (v : Value) : Prop := ∃ A c l, v = .slice A l.length c ∧ OpsAt w w.heap.size A l
section
variable {H : Type} {enc : TypeId × Value → H} {w : World} {base b0 fuel : Nat} {held : Bool} {v : Value} {d : DataW H} {p : List MemPlace} {x : DataW H × List MemPlace}
theorem tr8 (h : DataW.trod enc Try.prog w b0 (fun _ => true) held fuel 5 [v] = some x) : ∃ n : Nat, v = .int .u8 n ∧ n < 256 := by
  obtain ⟨n, hcs, _, hw⟩ := DataW.trod_int Try.underlying5 h
  have := wf_u8 hw
  obtain ⟨m, rfl⟩ : ∃ m : Nat, n = m := ⟨n.toNat, by omega⟩
  exact ⟨m, by simpa using hcs, by omega⟩
theorem tr64 (h : DataW.trod enc Try.prog w b0 (fun _ => true) held fuel 45 [v] = some x) : ∃ n : Nat, v = .int .u64 n ∧ n < 18446744073709551616 := by
  obtain ⟨n, hcs, _, hw⟩ := DataW.trod_int Try.underlying45 h
  obtain ⟨m, rfl, hm⟩ := nat_u64 hw
  exact ⟨m, by simpa using hcs, hm⟩
theorem trI (h : DataW.trod enc Try.prog w b0 (fun _ => true) held fuel 3 [v] = some x) : ∃ n : Int, v = .int .i64 n ∧ (Lit.int .i64 n).wf = true := by
  obtain ⟨n, hcs, _, hw⟩ := DataW.trod_int Try.underlying3 h
  exact ⟨n, by simpa using hcs, hw⟩
theorem c8 : Try.prog.cellsOf 5 = 1 := by kernel_rfl
theorem c64 : Try.prog.cellsOf 45 = 1 := by kernel_rfl
theorem cI : Try.prog.cellsOf 3 = 1 := by kernel_rfl
theorem cB : Try.prog.cellsOf 24 = 1 := by kernel_rfl
theorem cOp : Try.prog.cellsOf 47 = 4 := by kernel_rfl
theorem list4 {α : Type} {l : List α} (h : l.length = 4) : ∃ a b c d, l = [a, b, c, d] := by
  match l, h with
  | [a, b, c, d], _ => exact ⟨a, b, c, d, rfl⟩
theorem field_at {fs : Array Field} {n : Nat} {cs : List Value} {xs : List (DataW H × List MemPlace)} (hg : ∀ (i : Nat) (f : Field), fs[i]? = some f → DataW.trod enc Try.prog w b0 (fun _ => true) held n f.type ((cs.drop f.offset).take (Try.prog.cellsOf f.type)) = xs[i]?)
    (i : Nat) (t : TypeId) (off k : Nat) (hf : (fs[i]?).map (fun f => (f.type, f.offset)) = some (t, off)) (hc : Try.prog.cellsOf t = k) (hl : i < xs.length) : ∃ y, DataW.trod enc Try.prog w b0 (fun _ => true) held n t ((cs.drop off).take k) = some y := by
  obtain ⟨f, h1, h2⟩ := Option.map_eq_some_iff.1 hf
  simp only [Prod.mk.injEq] at h2
  obtain ⟨rfl, rfl⟩ := h2
  have := hg i f h1
  rw [hc] at this
  exact ⟨_, this.trans (List.getElem?_eq_getElem hl)⟩
theorem op_trod {v0 v1 v2 v3 : Value} (h : DataW.trod enc Try.prog w b0 (fun _ => true) held fuel 47 [v0, v1, v2, v3] = some x) : ∃ y : OpP, OpV w w.heap.size y v0 v1 v2 v3 := by
  obtain ⟨xs, n, _, _, _, hlen, hg⟩ := DataW.trod_struct Try.underlying47 h
  obtain ⟨_, g0⟩ := field_at hg 0 5 0 1 rfl c8 (by rw [hlen]; decide)
  obtain ⟨_, g1⟩ := field_at hg 1 3 1 1 rfl cI (by rw [hlen]; decide)
  obtain ⟨_, g2⟩ := field_at hg 2 24 2 1 rfl cB (by rw [hlen]; decide)
  obtain ⟨_, g3⟩ := field_at hg 3 45 3 1 rfl c64 (by rw [hlen]; decide)
  simp only [List.drop_zero, List.drop_succ_cons, List.take_succ_cons, List.take_zero] at g0 g1 g2 g3
  obtain ⟨a, rfl, f0⟩ := tr8 g0
  obtain ⟨c, rfl, f2⟩ := trI g1
  obtain ⟨A, c3, l, e3, h3, -, h4⟩ := bytes_trod Try.underlying24 Try.underlying5 c8 g2
  obtain ⟨q, rfl, f4⟩ := tr64 g3
  exact ⟨⟨a, c, l, q⟩, rfl, rfl, ⟨A, c3, e3, h3, h4⟩, rfl, f0, f2, f4⟩
theorem ops_trod (h : DataW.trod enc Try.prog w b0 (fun _ => true) held fuel 23 [v] = some x) : IsOps w v := by
  rcases open_slice Try.underlying23 h with ⟨hcs, _⟩ | ⟨a, len, cap, m, n, D, Pl, hcs, _, hl, hm, hmm, _, hi⟩
  · simp only [List.cons.injEq, and_true] at hcs
    exact ⟨none, 0, [], hcs, fun j hj => absurd hj (by simp)⟩
  · simp only [List.cons.injEq, and_true] at hcs
    have hlm : len ≤ m := by rw [hmm]; split <;> omega
    rw [cOp] at hi
    have each : ∀ i, i < len → ∃ y : OpP, ∃ v0 v1 v2 v3, OpV w w.heap.size y v0 v1 v2 v3 ∧ w.cell? (a.add (i * 4)) = some v0 ∧ w.cell? (a.add (i * 4 + 1)) = some v1 ∧ w.cell? (a.add (i * 4 + 2)) = some v2 ∧ w.cell? (a.add (i * 4 + 3)) = some v3 := fun i hil => by
      obtain ⟨cs', hc, ht⟩ := hi i (by omega)
      obtain ⟨_, hcl, hat⟩ := World.cells?_some hc
      obtain ⟨v0, v1, v2, v3, rfl⟩ := list4 hcl
      obtain ⟨y, hy⟩ := op_trod ht
      have hz := hat 0 (by omega)
      have h1 := hat 1 (by omega)
      have h2 := hat 2 (by omega)
      have h3 := hat 3 (by omega)
      rw [Go.Deep.add_add] at hz h1 h2 h3
      exact ⟨y, v0, v1, v2, v3, hy, hz, h1, h2, h3⟩
    obtain ⟨y, hy⟩ := choose_lt each
    refine ⟨some a, cap, (List.range len).map y, by rw [List.length_map, List.length_range]; exact hcs, fun j hj => ?_⟩
    rw [List.length_map, List.length_range] at hj
    obtain ⟨_, _, _, _, _, hz, _⟩ := hy 0 (by omega)
    rw [Nat.zero_mul] at hz
    obtain ⟨b, o, rfl, hb⟩ := addr_form hz
    obtain ⟨v0, v1, v2, v3, hv, c0, c1, c2, c3⟩ := hy j hj
    rw [add_none] at c0 c1 c2 c3
    rw [List.getElem_map, List.getElem_range]
    exact ⟨b, o, v0, v1, v2, v3, rfl, hb, c0, c1, c2, c3, hv⟩
theorem is_Ops (hv : Value.okWide Try.prog w .any base 23 v) (h : DataW.Trod enc Try.prog w 0 (fun _ => true) held 23 v d p) : IsOps w v := by
  obtain ⟨a, len, cap, rfl⟩ := okWide_slice Try.underlying23 hv
  obtain ⟨fuel, hf⟩ := h
  exact ops_trod (by simpa [Value.cells] using hf)
end
def LightOps (l : List OpP) : Prop := l.length ≤ 120 ∧ ∀ x ∈ l, x.data.length ≤ 200
def HeavyPost (l : List OpP) (w : World) (e : Ending) (w' : World) : Prop := (∃ r : Bool, e = .returned (.bool r) ∧ (r = false → LightOps l)) ∧ w = w'
set_option maxHeartbeats 1000000 in
theorem heavy_any (A : Option Addr) (c : Nat) (l : List OpP) (B : Nat) (w : World) (h : OpsAt w B A l) :
    Calls Try.prog 9 #[.slice A l.length c] w (HeavyPost l w) := by
  have yes : HeavyPost l w (.returned (.bool true)) w := ⟨⟨true, rfl, fun h => by cases h⟩, rfl⟩
  have YES := Lib.hid yes
  clear yes
  rcases Nat.lt_or_ge 120 l.length with hl | hl
  · have t3 : decide ((120 : Int) < (l.length : Int)) = true := by rw [decide_eq_true_iff]; omega
    go_enter Try.func9, Try.ntmps9
    go_wp2
    go_ret
    exact YES.out
  have t3 : decide ((120 : Int) < (l.length : Int)) = false := by rw [decide_eq_false_iff_not]; omega
  go_enter Try.func9, Try.ntmps9
  go_wp2_with fail
  go_loop [3] (fun i => ∃ k : Nat, k ≤ l.length ∧ i = .int .i64 k ∧ Hid (∀ j (hj : j < l.length), j < k → l[j].data.length ≤ 200)) (fun i => l.length - (intOf i).toNat)
  case atStart => exact ⟨0, Nat.zero_le _, rfl, fun j hj h => absurd h (by omega)⟩
  case round =>
    obtain ⟨k, hk, rfl, H⟩ := hrel
    rcases Nat.lt_or_ge k l.length with hlt | hge
    · have e1 : decide ((k : Int) < (l.length : Int)) = true := by rw [decide_eq_true_iff]; omega
      have e2 : (0 : Int) ≤ (k : Int) := by omega
      have e3 : (k : Int) < (l.length : Int) := by omega
      obtain ⟨bb, o, v0, v1, v2, v3, rfl, -, -, -, c2, -, -, -, ⟨A3, n3, rfl, -, -⟩, -⟩ := h k hlt
      have HN : Hid (l[k].data.length ≤ 200 → ∀ j (hj : j < l.length), j < k + 1 → l[j].data.length ≤ 200) := fun y1 j hj hjk => by
        rcases Nat.lt_or_ge j k with z | z
        · exact H.out j hj z
        · obtain rfl : j = k := by omega
          exact y1
      clear h H
      generalize l[k].data.length = p at *
      rcases Nat.lt_or_ge 200 p with y1 | y1
      · have g1 : decide ((200 : Int) < (p : Int)) = true := by rw [decide_eq_true_iff]; omega
        go_wp2
        go_ret
        exact YES.out
      · have g1 : decide ((200 : Int) < (p : Int)) = false := by rw [decide_eq_false_iff_not]; omega
        go_wp2
        go_round
        case rel => exact ⟨k + 1, by omega, by go_num, HN.out y1⟩
        case measure => simp [intOf]; omega
    · obtain rfl : k = l.length := by omega
      have e1 : decide ((l.length : Int) < (l.length : Int)) = false := by rw [decide_eq_false_iff_not]; omega
      have hno : HeavyPost l w (.returned (.bool false)) w := ⟨⟨false, rfl, fun _ => ⟨hl, fun x hx => by
        obtain ⟨j, hj, rfl⟩ := List.mem_iff_getElem.1 hx
        exact H.out j hj hj⟩⟩, rfl⟩
      have NO := Lib.hid hno
      clear hno h H
      go_wp2
      go_ret
      exact NO.out
end Go.Proofs.Ytkknfccfgmflmaa
