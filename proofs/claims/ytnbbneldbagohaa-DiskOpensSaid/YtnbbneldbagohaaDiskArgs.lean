/- What a proof's frame tells the walk of a fate that comes by value. Conditions: none. -/
import Derived.Test.YtnbbneldbagohaaArgs
import Derived.Test.YtnbbneldbagohaaDiskFind
import Derived.Lib.SmallJoins
namespace Go.Proofs.Ytnbbneldbagohaa
open Go.ChangeShapes Go.WideShapes Go.RowKit Go.Deep Go.Joins
set_option linter.unusedVariables false
set_option linter.unusedSimpArgs false
set_option maxRecDepth 20000

/-- a fate as a value -/
def fateV (x : FateP) : Value := .agg #[.int .u8 (x.file : Int), .int .i64 x.sector, .int .i64 x.keep, .int .i64 x.torn]
def IsFate (_w : World) (v : Value) : Prop := ∃ x : FateP, v = fateV x ∧ x.file < 256
section
variable {H : Type} {enc : TypeId × Value → H} {w : World} {base b0 fuel : Nat} {held : Bool} {v : Value} {d : DataW H} {p : List MemPlace} {x : DataW H × List MemPlace}
theorem tr8 (h : DataW.trod enc Try.prog w b0 (fun _ => true) held fuel 5 [v] = some x) : ∃ n : Nat, v = .int .u8 n ∧ n < 256 := by
  obtain ⟨n, hcs, _, hw⟩ := DataW.trod_int Try.underlying5 h
  have := wf_u8 hw
  obtain ⟨m, rfl⟩ : ∃ m : Nat, n = m := ⟨n.toNat, by omega⟩
  exact ⟨m, by simpa using hcs, by omega⟩
theorem trI (h : DataW.trod enc Try.prog w b0 (fun _ => true) held fuel 3 [v] = some x) : ∃ n : Int, v = .int .i64 n ∧ (Lit.int .i64 n).wf = true := by
  obtain ⟨n, hcs, _, hw⟩ := DataW.trod_int Try.underlying3 h
  exact ⟨n, by simpa using hcs, hw⟩
theorem c8 : Try.prog.cellsOf 5 = 1 := by kernel_rfl
theorem cI : Try.prog.cellsOf 3 = 1 := by kernel_rfl
theorem cFate : Try.prog.cellsOf 24 = 4 := by kernel_rfl
theorem list4 {α : Type} {l : List α} (h : l.length = 4) : ∃ a b c d, l = [a, b, c, d] := by
  match l, h with
  | [a, b, c, d], _ => exact ⟨a, b, c, d, rfl⟩
theorem field_at {fs : Array Field} {n : Nat} {cs : List Value} {xs : List (DataW H × List MemPlace)} (hg : ∀ (i : Nat) (f : Field), fs[i]? = some f → DataW.trod enc Try.prog w b0 (fun _ => true) held n f.type ((cs.drop f.offset).take (Try.prog.cellsOf f.type)) = xs[i]?)
    (i : Nat) (t : TypeId) (off k : Nat) (hf : (fs[i]?).map (fun f => (f.type, f.offset)) = some (t, off)) (hc : Try.prog.cellsOf t = k) (hl : i < xs.length) : ∃ y, DataW.trod enc Try.prog w b0 (fun _ => true) held n t ((cs.drop off).take k) = some y := by
  obtain ⟨f, h1, h2⟩ := Option.map_eq_some_iff.1 hf
  simp only [Prod.mk.injEq] at h2
  obtain ⟨rfl, rfl⟩ := h2
  have := hg i f h1
  rw [hc] at this
  exact ⟨_, this.trans (List.getElem?_eq_getElem hl)⟩
/-- a fate's four cells -/
theorem fate_trod {v0 v1 v2 v3 : Value} (h : DataW.trod enc Try.prog w b0 (fun _ => true) held fuel 24 [v0, v1, v2, v3] = some x) : ∃ y : FateP, [v0, v1, v2, v3] = fateCells y ∧ y.file < 256 := by
  obtain ⟨xs, n, _, _, _, hlen, hg⟩ := DataW.trod_struct Try.underlying24 h
  obtain ⟨_, g0⟩ := field_at hg 0 5 0 1 rfl c8 (by rw [hlen]; decide)
  obtain ⟨_, g1⟩ := field_at hg 1 3 1 1 rfl cI (by rw [hlen]; decide)
  obtain ⟨_, g2⟩ := field_at hg 2 3 2 1 rfl cI (by rw [hlen]; decide)
  obtain ⟨_, g3⟩ := field_at hg 3 3 3 1 rfl cI (by rw [hlen]; decide)
  simp only [List.drop_zero, List.drop_succ_cons, List.take_succ_cons, List.take_zero] at g0 g1 g2 g3
  obtain ⟨a, rfl, f0⟩ := tr8 g0
  obtain ⟨b, rfl, f1⟩ := trI g1
  obtain ⟨c, rfl, f2⟩ := trI g2
  obtain ⟨e, rfl, f3⟩ := trI g3
  exact ⟨⟨a, b, c, e⟩, rfl, f0⟩
theorem is_Fate (hv : Value.okWide Try.prog w .any base 24 v) (h : DataW.Trod enc Try.prog w 0 (fun _ => true) held 24 v d p) : IsFate w v := by
  obtain ⟨⟨l⟩, rfl, hsz⟩ := okWide_struct Try.underlying24 hv
  obtain ⟨v0, v1, v2, v3, rfl⟩ := list4 (hsz.trans cFate)
  obtain ⟨fuel, hf⟩ := h
  obtain ⟨y, e, hy⟩ := fate_trod (by simpa [Value.cells] using hf)
  exact ⟨y, by unfold fateV; simp [fateCells] at e; simp [e], hy⟩
end
end Go.Proofs.Ytnbbneldbagohaa
