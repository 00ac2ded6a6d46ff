/- What a proof's frame tells the walk of each argument: one predicate a type, and that whatever reads by the type has it. Conditions: none; no program in sight. -/
import Derived.Test.YthbaoljghofkoaaBrows
import Derived.ProofKit
import Derived.OpenShut
import Derived.Deep.Slices
import Derived.Deep.Matrix
namespace Go.Proofs.Ythbaoljghofkoaa
open Go.ChangeShapes Go.WideShapes Go.RowKit Go.Deep
set_option linter.unusedVariables false
set_option linter.unusedSimpArgs false

def IsInt (k : IntKind) (_w : World) (v : Value) : Prop := ∃ a, v = .int k a ∧ (Lit.int k a).wf = true
def IsBool (_w : World) (v : Value) : Prop := ∃ b, v = .bool b
/-- a slice of bytes -/
def IsBytes (w : World) (v : Value) : Prop := ∃ A c l, v = .slice A l.length c ∧ l.length ≤ c ∧ c ≤ maxLen ∧ Bytes w w.heap.size A l
/-- a slice of slices of bytes -/
def IsBlocks (w : World) (v : Value) : Prop := ∃ A c L ls, v = .slice A ls.length c ∧ ls.length ≤ c ∧ c ≤ maxLen ∧ At w w.heap.size A L ∧ Reads w w.heap.size L ls

theorem addr_form {w : World} {x : Addr} {v : Value} (h : w.cell? (x.add 0) = some v) : ∃ b o, x = ⟨b, o, none⟩ ∧ b < w.heap.size := by
  have hsp := World.cell?_spot h
  obtain ⟨b, o, sp⟩ := x
  have hsp' : sp = none := by simpa [Addr.add] using hsp
  subst hsp'
  refine ⟨b, o, rfl, ?_⟩
  rcases Nat.lt_or_ge b w.heap.size with q | q
  · exact q
  · simp only [World.cell?, Addr.add, if_pos] at h
    rw [Array.getElem?_eq_none q] at h
    cases h
theorem add_none (b o j : Nat) : (⟨b, o, none⟩ : Addr).add j = ⟨b, o + j, none⟩ := by
  unfold Addr.add
  split
  · subst_vars; rfl
  · rfl
theorem at_of {w : World} {x : Addr} {n : Nat} (V : Nat → Value) (h : ∀ r, r < n → w.cell? (x.add r) = some (V r)) : At w w.heap.size (some x) ((List.range n).map V) := fun j hj => by
  have hj' : j < n := by simpa using hj
  obtain ⟨b, o, rfl, hb⟩ := addr_form (h 0 (by omega))
  refine ⟨b, o, rfl, hb, ?_⟩
  rw [← add_none, h j hj']
  simp

theorem bytes_of {w : World} {A : Option Addr} {len cap : Nat} {zs : List Int} (hl : len ≤ cap) (hz : zs.length = cap) (hw : ∀ n ∈ zs, (Lit.int .u8 n).wf = true) (hn : A = none → cap = 0)
    (hc : ∀ a, A = some a → ∀ c, c < cap → w.cell? (a.add c) = some (.int .u8 (zs.getD c 0))) : ∃ l : List Nat, l.length = len ∧ Bytes w w.heap.size A l := by
  refine ⟨(zs.take len).map Int.toNat, by simp; omega, ?_, ?_⟩
  · cases A with
    | none =>
      have : len = 0 := by have := hn rfl; omega
      subst this
      exact At.nil _ _ _
    | some x =>
      have := at_of (w := w) (x := x) (n := len) (fun c => .int .u8 (zs.getD c 0)) (fun r hr => hc x rfl r (by omega))
      have e : ((List.range len).map fun c => Value.int .u8 (zs.getD c 0)) = ((zs.take len).map Int.toNat).map byteV := by
        apply List.ext_getElem
        · simp; omega
        · intro i h1 h2
          have hi : i < zs.length := by simp at h1; omega
          simp only [List.getElem_map, List.getElem_range, byteV, List.getElem_take]
          have hb := wf_u8 (hw zs[i] (List.getElem_mem hi))
          rw [List.getD_eq_getElem?_getD, List.getElem?_eq_getElem hi, Option.getD_some]
          congr 1
          omega
      rwa [e] at this
  · intro x hx
    obtain ⟨y, hy, rfl⟩ := List.mem_map.1 hx
    have := wf_u8 (hw y (List.mem_of_mem_take hy))
    omega

section
variable {H : Type} {enc : TypeId × Value → H} {P : Program} {w : World} {base : Nat} {held : Bool} {t : TypeId} {v : Value} {d : DataW H} {p : List MemPlace}
theorem is_int {k : IntKind} (ht : P.underlying t = some (.int k)) (hv : Value.okWide P w .any base t v) (h : DataW.Trod enc P w 0 (fun _ => true) held t v d p) : IsInt k w v := by
  obtain ⟨a, rfl, _, _, hw⟩ := open_int ht hv h
  exact ⟨a, rfl, hw⟩
theorem is_bool (ht : P.underlying t = some .bool) (hv : Value.okWide P w .any base t v) (h : DataW.Trod enc P w 0 (fun _ => true) held t v d p) : IsBool w v := by
  obtain ⟨a, rfl, _, _⟩ := open_bool ht hv h
  exact ⟨a, rfl⟩
/-- the cell of a slice of bytes -/
theorem bytes_trod {q : TypeId} {fuel : Nat} {x : DataW H × List MemPlace} {b0 : Nat} (ht : P.underlying t = some (.slice q)) (hq : P.underlying q = some (.int .u8)) (cq : P.cellsOf q = 1)
    (h : DataW.trod enc P w b0 (fun _ => true) held fuel t [v] = some x) : IsBytes w v := by
  rcases open_ints ht hq cq h with ⟨hcs, _⟩ | ⟨a, len, cap, zs, hcs, _, hl, hm, hz, _, hcell, hwz⟩
  · simp only [List.cons.injEq, and_true] at hcs
    exact ⟨none, 0, [], hcs, Nat.le_refl _, Nat.zero_le _, Bytes.nil _ _ _⟩
  · simp only [List.cons.injEq, and_true] at hcs
    obtain ⟨l, e, hb⟩ := bytes_of (w := w) (A := some a) hl (by simpa using hz) hwz (fun h => by cases h) (fun a' h' c hc => by cases h'; exact hcell c (by simp at hz; omega))
    subst e
    exact ⟨some a, cap, l, hcs, hl, hm, hb⟩
theorem is_bytes {q : TypeId} (ht : P.underlying t = some (.slice q)) (hq : P.underlying q = some (.int .u8)) (cq : P.cellsOf q = 1) (hv : Value.okWide P w .any base t v) (h : DataW.Trod enc P w 0 (fun _ => true) held t v d p) : IsBytes w v := by
  obtain ⟨a, len, cap, rfl⟩ := okWide_slice ht hv
  obtain ⟨fuel, hf⟩ := h
  exact bytes_trod ht hq cq (by simpa [Value.cells] using hf)
theorem blocks_trod {e q : TypeId} {fuel : Nat} {x : DataW H × List MemPlace} {b0 : Nat} (ht : P.underlying t = some (.slice e)) (he : P.underlying e = some (.slice q)) (hq : P.underlying q = some (.int .u8)) (ce : P.cellsOf e = 1) (cq : P.cellsOf q = 1)
    (h : DataW.trod enc P w b0 (fun _ => true) held fuel t [v] = some x) : IsBlocks w v := by
  rcases open_int_rows ht he hq ce cq h with ⟨hcs, _⟩ | ⟨a, len, cap, A, L, C, Z, hcs, _, hl, hm, _, hr⟩
  · simp only [List.cons.injEq, and_true] at hcs
    exact ⟨none, 0, [], [], hcs, Nat.le_refl _, Nat.zero_le _, At.nil _ _ _, rfl, fun j l h => by simp at h⟩
  · simp only [List.cons.injEq, and_true] at hcs
    have each : ∀ r, r < len → ∃ l : List Nat, l.length = L r ∧ Bytes w w.heap.size (A r) l := fun r hr' => by
      obtain ⟨h1, h2, h3, h4, h5, h6, h7⟩ := hr r (by omega)
      exact bytes_of h2 h4 h5 h6 (fun a' ha' c hc => (h7 a' ha').2 c hc)
    obtain ⟨l, hl'⟩ := choose_lt each
    refine ⟨some a, cap, (List.range len).map fun r => .slice (A r) (L r) (C r), (List.range len).map l, by rw [List.length_map, List.length_range]; exact hcs, by simpa using hl, hm, at_of _ fun r hr' => (hr r (by omega)).1, by simp, fun j m hj => ?_⟩
    rw [List.getElem?_map] at hj
    have hjn : j < len := by
      rcases Nat.lt_or_ge j len with q | q
      · exact q
      · rw [List.getElem?_eq_none (by simpa using q)] at hj; cases hj
    rw [List.getElem?_range hjn] at hj
    simp only [Option.map_some, Option.some.injEq] at hj
    subst hj
    refine ⟨A j, C j, ?_, ?_, (hl' j hjn).2⟩
    · rw [List.getElem?_map, List.getElem?_range hjn, (hl' j hjn).1]; rfl
    · rw [(hl' j hjn).1]; exact (hr j (by omega)).2.1
theorem is_blocks {e q : TypeId} (ht : P.underlying t = some (.slice e)) (he : P.underlying e = some (.slice q)) (hq : P.underlying q = some (.int .u8)) (ce : P.cellsOf e = 1) (cq : P.cellsOf q = 1) (hv : Value.okWide P w .any base t v) (h : DataW.Trod enc P w 0 (fun _ => true) held t v d p) : IsBlocks w v := by
  obtain ⟨a, len, cap, rfl⟩ := okWide_slice ht hv
  obtain ⟨fuel, hf⟩ := h
  exact blocks_trod ht he hq ce cq (by simpa [Value.cells] using hf)
end
end Go.Proofs.Ythbaoljghofkoaa
