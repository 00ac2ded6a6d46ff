/- What a proof's frame tells the walk of a request and of a reply that come by value. Conditions: none. -/
import Derived.Test.YtciidogbojbkiaaArgs
import Derived.Test.YtciidogbojbkiaaCodecAsk
import Derived.Lib.SmallJoins
namespace Go.Proofs.Ytciidogbojbkiaa
open Go.ChangeShapes Go.WideShapes Go.RowKit Go.Deep Go.Joins
set_option linter.unusedVariables false
set_option linter.unusedSimpArgs false
set_option maxRecDepth 20000

def IsReq (_w : World) (v : Value) : Prop := ∃ r : Req, v = reqV r ∧ r.Fits
def IsRep (_w : World) (v : Value) : Prop := ∃ r : Rep, v = repV r ∧ r.Fits
theorem wf_u16 {n : Int} (h : (Lit.int .u16 n).wf = true) : 0 ≤ n ∧ n < 65536 := by have := bounds_u16 h; omega
theorem wf_u32 {n : Int} (h : (Lit.int .u32 n).wf = true) : 0 ≤ n ∧ n < 4294967296 := by have := bounds_u32 h; omega
theorem wf_u64 {n : Int} (h : (Lit.int .u64 n).wf = true) : 0 ≤ n ∧ n < 18446744073709551616 := by have := bounds_u64 h; omega
section
variable {H : Type} {enc : TypeId × Value → H} {w : World} {base b0 fuel : Nat} {held : Bool} {v : Value} {d : DataW H} {p : List MemPlace} {x : DataW H × List MemPlace}
theorem tr8 (h : DataW.trod enc Try.prog w b0 (fun _ => true) held fuel 5 [v] = some x) : ∃ n : Nat, v = .int .u8 n ∧ n < 256 := by
  obtain ⟨n, hcs, _, hw⟩ := DataW.trod_int Try.underlying5 h
  have := wf_u8 hw
  obtain ⟨m, rfl⟩ : ∃ m : Nat, n = m := ⟨n.toNat, by omega⟩
  exact ⟨m, by simpa using hcs, by omega⟩
theorem tr16 (h : DataW.trod enc Try.prog w b0 (fun _ => true) held fuel 32 [v] = some x) : ∃ n : Nat, v = .int .u16 n ∧ n < 65536 := by
  obtain ⟨n, hcs, _, hw⟩ := DataW.trod_int Try.underlying32 h
  have := wf_u16 hw
  obtain ⟨m, rfl⟩ : ∃ m : Nat, n = m := ⟨n.toNat, by omega⟩
  exact ⟨m, by simpa using hcs, by omega⟩
theorem tr32 (h : DataW.trod enc Try.prog w b0 (fun _ => true) held fuel 22 [v] = some x) : ∃ n : Nat, v = .int .u32 n ∧ n < 4294967296 := by
  obtain ⟨n, hcs, _, hw⟩ := DataW.trod_int Try.underlying22 h
  have := wf_u32 hw
  obtain ⟨m, rfl⟩ : ∃ m : Nat, n = m := ⟨n.toNat, by omega⟩
  exact ⟨m, by simpa using hcs, by omega⟩
theorem tr64 (h : DataW.trod enc Try.prog w b0 (fun _ => true) held fuel 23 [v] = some x) : ∃ n : Nat, v = .int .u64 n ∧ n < 18446744073709551616 := by
  obtain ⟨n, hcs, _, hw⟩ := DataW.trod_int Try.underlying23 h
  have := wf_u64 hw
  obtain ⟨m, rfl⟩ : ∃ m : Nat, n = m := ⟨n.toNat, by omega⟩
  exact ⟨m, by simpa using hcs, by omega⟩
theorem c8 : Try.prog.cellsOf 5 = 1 := by kernel_rfl
theorem c16 : Try.prog.cellsOf 32 = 1 := by kernel_rfl
theorem c32 : Try.prog.cellsOf 22 = 1 := by kernel_rfl
theorem c64 : Try.prog.cellsOf 23 = 1 := by kernel_rfl
theorem cOp : Try.prog.cellsOf 25 = 7 := by kernel_rfl
theorem cReq : Try.prog.cellsOf 27 = 9 := by kernel_rfl
theorem cRep : Try.prog.cellsOf 42 = 4 := by kernel_rfl
theorem list9 {α : Type} {l : List α} (h : l.length = 9) : ∃ a b c d e f g i j, l = [a, b, c, d, e, f, g, i, j] := by
  match l, h with
  | [a, b, c, d, e, f, g, i, j], _ => exact ⟨a, b, c, d, e, f, g, i, j, rfl⟩
theorem list4 {α : Type} {l : List α} (h : l.length = 4) : ∃ a b c d, l = [a, b, c, d] := by
  match l, h with
  | [a, b, c, d], _ => exact ⟨a, b, c, d, rfl⟩
theorem get_some {α : Type} {xs : List α} {n i : Nat} (hl : xs.length = n) (hi : i < n) : ∃ y, xs[i]? = some y := ⟨xs[i], List.getElem?_eq_getElem (by omega)⟩
theorem field_at {fs : Array Field} {n : Nat} {cs : List Value} {xs : List (DataW H × List MemPlace)} (hg : ∀ (i : Nat) (f : Field), fs[i]? = some f → DataW.trod enc Try.prog w b0 (fun _ => true) held n f.type ((cs.drop f.offset).take (Try.prog.cellsOf f.type)) = xs[i]?)
    (i : Nat) (t : TypeId) (off k : Nat) (hf : (fs[i]?).map (fun f => (f.type, f.offset)) = some (t, off)) (hc : Try.prog.cellsOf t = k) (hl : i < xs.length) : ∃ y, DataW.trod enc Try.prog w b0 (fun _ => true) held n t ((cs.drop off).take k) = some y := by
  obtain ⟨f, h1, h2⟩ := Option.map_eq_some_iff.1 hf
  simp only [Prod.mk.injEq] at h2
  obtain ⟨rfl, rfl⟩ := h2
  have := hg i f h1
  rw [hc] at this
  exact ⟨_, this.trans (List.getElem?_eq_getElem hl)⟩
theorem is_Req (hv : Value.okWide Try.prog w .any base 27 v) (h : DataW.Trod enc Try.prog w 0 (fun _ => true) held 27 v d p) : IsReq w v := by
  obtain ⟨⟨l⟩, rfl, hsz⟩ := okWide_struct Try.underlying27 hv
  obtain ⟨v0, v1, v2, v3, v4, v5, v6, v7, v8, rfl⟩ := list9 (hsz.trans cReq)
  obtain ⟨fuel, hf⟩ := h
  obtain ⟨xs, n, _, _, _, hlen, hg⟩ := DataW.trod_struct Try.underlying27 hf
  obtain ⟨_, g0⟩ := field_at hg 0 5 0 1 rfl c8 (by rw [hlen]; decide)
  obtain ⟨_, g1⟩ := field_at hg 1 22 1 1 rfl c32 (by rw [hlen]; decide)
  obtain ⟨_, g2⟩ := field_at hg 2 25 2 7 rfl cOp (by rw [hlen]; decide)
  simp only [Value.cells, List.drop_zero, List.drop_succ_cons, List.take_succ_cons, List.take_zero] at g0 g1 g2
  obtain ⟨xs', n', _, _, _, hlen', hg'⟩ := DataW.trod_struct Try.underlying25 g2
  obtain ⟨_, j0⟩ := field_at hg' 0 5 0 1 rfl c8 (by rw [hlen']; decide)
  obtain ⟨_, j1⟩ := field_at hg' 1 22 1 1 rfl c32 (by rw [hlen']; decide)
  obtain ⟨_, j2⟩ := field_at hg' 2 22 2 1 rfl c32 (by rw [hlen']; decide)
  obtain ⟨_, j3⟩ := field_at hg' 3 22 3 1 rfl c32 (by rw [hlen']; decide)
  obtain ⟨_, j4⟩ := field_at hg' 4 22 4 1 rfl c32 (by rw [hlen']; decide)
  obtain ⟨_, j5⟩ := field_at hg' 5 23 5 1 rfl c64 (by rw [hlen']; decide)
  obtain ⟨_, j6⟩ := field_at hg' 6 23 6 1 rfl c64 (by rw [hlen']; decide)
  simp only [Value.cells, List.drop_zero, List.drop_succ_cons, List.take_succ_cons, List.take_zero] at j0 j1 j2 j3 j4 j5 j6
  obtain ⟨k, rfl, f0⟩ := tr8 g0
  obtain ⟨m, rfl, f1⟩ := tr32 g1
  obtain ⟨a0, rfl, h0⟩ := tr8 j0
  obtain ⟨a1, rfl, h1⟩ := tr32 j1
  obtain ⟨a2, rfl, h2⟩ := tr32 j2
  obtain ⟨a3, rfl, h3⟩ := tr32 j3
  obtain ⟨a4, rfl, h4⟩ := tr32 j4
  obtain ⟨a5, rfl, h5⟩ := tr64 j5
  obtain ⟨a6, rfl, h6⟩ := tr64 j6
  exact ⟨⟨k, m, a0, a1, a2, a3, a4, a5, a6⟩, rfl, f0, f1, h0, h1, h2, h3, h4, h5, h6⟩
theorem is_Rep (hv : Value.okWide Try.prog w .any base 42 v) (h : DataW.Trod enc Try.prog w 0 (fun _ => true) held 42 v d p) : IsRep w v := by
  obtain ⟨⟨l⟩, rfl, hsz⟩ := okWide_struct Try.underlying42 hv
  obtain ⟨v0, v1, v2, v3, rfl⟩ := list4 (hsz.trans cRep)
  obtain ⟨fuel, hf⟩ := h
  obtain ⟨xs, n, _, _, _, hlen, hg⟩ := DataW.trod_struct Try.underlying42 hf
  obtain ⟨_, g0⟩ := field_at hg 0 32 0 1 rfl c16 (by rw [hlen]; decide)
  obtain ⟨_, g1⟩ := field_at hg 1 23 1 1 rfl c64 (by rw [hlen]; decide)
  obtain ⟨_, g2⟩ := field_at hg 2 23 2 1 rfl c64 (by rw [hlen]; decide)
  obtain ⟨_, g3⟩ := field_at hg 3 23 3 1 rfl c64 (by rw [hlen]; decide)
  simp only [Value.cells, List.drop_zero, List.drop_succ_cons, List.take_succ_cons, List.take_zero] at g0 g1 g2 g3
  obtain ⟨k, rfl, f0⟩ := tr16 g0
  obtain ⟨a, rfl, f1⟩ := tr64 g1
  obtain ⟨b, rfl, f2⟩ := tr64 g2
  obtain ⟨c, rfl, f3⟩ := tr64 g3
  exact ⟨⟨k, a, b, c⟩, rfl, f0, f1, f2, f3⟩
end
end Go.Proofs.Ytciidogbojbkiaa
