/- What the frame tells the walk of sectors that come in as a slice. Conditions: none. -/
import Derived.Test.YtkganajbilnanaaGreatYBase
namespace Go.Proofs.YtkganajbilnanaaGreat
open Go.ChangeShapes Go.WideShapes Go.RowKit Go.Deep
set_option linter.unusedVariables false
set_option linter.unusedSimpArgs false
section
variable {H : Type} {enc : TypeId × Value → H} {P : Program} {w : World} {base : Nat} {held : Bool} {t : TypeId} {v : Value} {d : DataW H} {p : List MemPlace}
theorem blocks_trod {e q : TypeId} {fuel : Nat} {x : DataW H × List MemPlace} {b0 : Nat} (ht : P.underlying t = some (.slice e)) (he : P.underlying e = some (.slice q)) (hq : P.underlying q = some (.int .u8)) (ce : P.cellsOf e = 1) (cq : P.cellsOf q = 1)
    (h : DataW.trod enc P w b0 (fun _ => true) held fuel t [v] = some x) : IsBlocks w v := by
  rcases open_int_rows ht he hq ce cq h with ⟨hcs, _⟩ | ⟨a, len, cap, A, L, C, Z, hcs, _, hl, hm, _, hr⟩
  · simp only [List.cons.injEq, and_true] at hcs
    exact ⟨none, 0, [], [], hcs, Nat.le_refl _, Nat.zero_le _, At.nil _ _ _, rfl, fun j l h => by simp at h⟩
  · simp only [List.cons.injEq, and_true] at hcs
    have each : ∀ r, r < len → ∃ l : List Nat, l.length = L r ∧ Bytes w w.heap.size (A r) l := fun r hr' => by
      obtain ⟨h1, h2, h3, h4, h5, h6, h7⟩ := hr r (by omega)
      exact bytes_of h2 h4 h5 h6 (fun a' ha' c hc => (h7 a' ha').2 c hc)
    obtain ⟨l, hl'⟩ := choose_lt each
    refine ⟨some a, cap, (List.range len).map fun r => .slice (A r) (L r) (C r), (List.range len).map l, by rw [List.length_map, List.length_range]; exact hcs, by simpa using hl, hm, at_of _ fun r hr' => (hr r (by omega)).1, by simp, fun j m hj => ?_⟩
    rw [List.getElem?_map] at hj
    have hjn : j < len := by
      rcases Nat.lt_or_ge j len with q | q
      · exact q
      · rw [List.getElem?_eq_none (by simpa using q)] at hj; cases hj
    rw [List.getElem?_range hjn] at hj
    simp only [Option.map_some, Option.some.injEq] at hj
    subst hj
    refine ⟨A j, C j, ?_, ?_, (hl' j hjn).2⟩
    · rw [List.getElem?_map, List.getElem?_range hjn, (hl' j hjn).1]; rfl
    · rw [(hl' j hjn).1]; exact (hr j (by omega)).2.1
theorem is_blocks {e q : TypeId} (ht : P.underlying t = some (.slice e)) (he : P.underlying e = some (.slice q)) (hq : P.underlying q = some (.int .u8)) (ce : P.cellsOf e = 1) (cq : P.cellsOf q = 1) (hv : Value.okWide P w .any base t v) (h : DataW.Trod enc P w 0 (fun _ => true) held t v d p) : IsBlocks w v := by
  obtain ⟨a, len, cap, rfl⟩ := okWide_slice ht hv
  obtain ⟨fuel, hf⟩ := h
  exact blocks_trod ht he hq ce cq (by simpa [Value.cells] using hf)
end
end Go.Proofs.YtkganajbilnanaaGreat
