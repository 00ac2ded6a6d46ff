/- page: what sound says is what holds of a page made by its own calls. Conditions: none; no program in sight. -/
import Derived.Test.YtkknfccfgmflmaaPgSound
namespace Go.Proofs.Ytkknfccfgmflmaa
open Go.ChangeShapes Go.WideShapes Go.ChangeAt Go.RowKit
open NumMath
set_option linter.unusedVariables false
set_option linter.unusedSimpArgs false

theorem tkn_iff {f : Nat → Nat} {k i : Nat} : tkn f k i = true ↔ ∃ s, s < k ∧ atN f s ≤ i ∧ i < atN f s + lenN f s := by
  unfold tkn
  rw [List.any_eq_true]
  constructor
  · rintro ⟨s, hs, h⟩
    rw [List.mem_range] at hs
    rw [Bool.and_eq_true, decide_eq_true_iff, decide_eq_true_iff] at h
    exact ⟨s, hs, h.1, h.2⟩
  · rintro ⟨s, hs, h1, h2⟩
    exact ⟨s, List.mem_range.2 hs, by rw [Bool.and_eq_true, decide_eq_true_iff, decide_eq_true_iff]; exact ⟨h1, h2⟩⟩
theorem topC_has (l : List Nat) (c : Nat) (h : l ≠ []) : ∃ s ∈ l, topC l c = s + 1 := by
  induction l generalizing c with
  | nil => exact absurd rfl h
  | cons x l ih =>
    cases l with
    | nil => exact ⟨x, List.mem_cons_self .., rfl⟩
    | cons y l =>
      obtain ⟨s, hs, e⟩ := ih (x + 1) (by simp)
      exact ⟨s, List.mem_cons_of_mem _ hs, e⟩
theorem Sound.toP {f : Nat → Nat} (h : Sound f) : SoundP f := by
  refine ⟨h.ok.c40, fun s hs => ?_, fun i h1 h2 => ?_, h.low.symm, ?_⟩
  · rcases h.ok.ent s hs with z | ⟨z1, z2, z3, z4⟩
    · exact .inl z
    · refine .inr ⟨z1, z2, z3, z4, fun j hj => ?_⟩
      cases hq : tkn f s (atN f s + j)
      · rfl
      · obtain ⟨t, ht, a, b⟩ := tkn_iff.1 hq
        have := h.dis t s (by omega) hs (by omega) (by omega) z1
        omega
  · by_cases hi : isIn f i
    · obtain ⟨s, hs, _, a, b⟩ := hi
      exact .inl (tkn_iff.2 ⟨s, hs, a, b⟩)
    · exact .inr (h.zero i h1 h2 hi)
  · by_cases hl : slotsF f = []
    · have := h.top
      rw [hl] at this
      exact .inl this
    · obtain ⟨s, hs, e⟩ := topC_has (slotsF f) 0 hl
      have ht := h.top
      rw [e] at ht
      rw [ht, Nat.add_sub_cancel]
      exact .inr (slotsTo_iff.1 hs).2
theorem SoundP.toS {f : Nat → Nat} (h : SoundP f) (hs : ∀ i, f i < 256) : Sound f := by
  have hok : Ok f := ⟨h.c40, fun s hs => by rcases h.good s hs with z | ⟨z1, z2, z3, z4, -⟩; exact .inl z; exact .inr ⟨z1, z2, z3, z4⟩⟩
  have key : ∀ s t, s < t → t < cnt f → 0 < lenN f s → 0 < lenN f t → atN f s + lenN f s ≤ atN f t ∨ atN f t + lenN f t ≤ atN f s := fun s t hst ht h1 h2 => by
    rcases h.good t ht with z | ⟨z1, z2, z3, z4, z5⟩
    · omega
    · apply Classical.byContradiction
      intro hn
      have hno : ∀ j, j < lenN f t → ¬ (atN f s ≤ atN f t + j ∧ atN f t + j < atN f s + lenN f s) := fun j hj hin => by
        have := z5 j hj
        rw [tkn_iff.2 ⟨s, hst, hin.1, hin.2⟩] at this
        cases this
      rcases Nat.lt_or_ge (atN f t) (atN f s) with q | q
      · exact hno (atN f s - atN f t) (by omega) (by omega)
      · exact hno 0 h2 (by omega)
  refine ⟨⟨hok, fun s t hs ht hne h1 h2 => ?_, fun i h1 h2 hi => ?_, hs⟩, h.low.symm, ?_⟩
  · rcases Nat.lt_or_ge s t with q | q
    · exact key s t q ht h1 h2
    · exact (key t s (by omega) hs h2 h1).symm
  · rcases h.zero i h1 h2 with z | z
    · obtain ⟨s, hs, a, b⟩ := tkn_iff.1 z
      exact absurd ⟨s, hs, by omega, a, b⟩ hi
    · exact z
  · rcases h.top with z | z
    · rw [show slotsF f = slotsTo f (cnt f) from rfl, z]
      rfl
    · cases hc : cnt f with
      | zero => rw [show slotsF f = slotsTo f (cnt f) from rfl, hc]; rfl
      | succ k =>
        rw [hc, Nat.add_sub_cancel] at z
        rw [show slotsF f = slotsTo f (cnt f) from rfl, hc, slotsTo_next, if_pos z, topC_snoc]
end Go.Proofs.Ytkknfccfgmflmaa
