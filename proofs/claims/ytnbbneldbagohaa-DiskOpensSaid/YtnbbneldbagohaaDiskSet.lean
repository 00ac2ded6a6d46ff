/- disk: a sector is set anew, step by step through a file. Conditions: none. -/
import Derived.Test.YtnbbneldbagohaaDiskAsk
namespace Go.Proofs.Ytnbbneldbagohaa
open Go.ChangeShapes Go.WideShapes Go.ChangeAt Go.RowKit
set_option linter.unusedVariables false
set_option linter.unusedSimpArgs false

/-- the first k sectors of file n are turned by g -/
def stepF (f : Nat → List Sect) (n : Nat) (g : Nat → Sect → Sect) (k : Nat) (m : Nat) : List Sect := if m = n then (f m).mapIdx (fun i s => if i < k then g i s else s) else f m
theorem stepF_zero (f : Nat → List Sect) (n : Nat) (g : Nat → Sect → Sect) : stepF f n g 0 = f := by
  funext m
  unfold stepF
  split
  · apply List.ext_getElem
    · simp
    · intro i h1 h2
      simp
  · rfl
theorem stepF_length (f : Nat → List Sect) (n : Nat) (g : Nat → Sect → Sect) (k m : Nat) : (stepF f n g k m).length = (f m).length := by
  unfold stepF
  split
  · simp
  · rfl
theorem stepF_all (f : Nat → List Sect) (n : Nat) (g : Nat → Sect → Sect) {k : Nat} (hk : k = (f n).length) : stepF f n g k = fun m => if m = n then (f m).mapIdx g else f m := by
  funext m
  unfold stepF
  split
  · rename_i e
    subst e
    apply List.ext_getElem
    · simp
    · intro i h1 h2
      simp only [List.getElem_mapIdx]
      rw [if_pos (by simp at h1; omega)]
  · rfl
theorem stepF_at (f : Nat → List Sect) (n : Nat) (g : Nat → Sect → Sect) {k : Nat} (hk : k < (f n).length) (h : k < (stepF f n g k n).length) : (stepF f n g k n)[k] = (f n)[k] := by
  simp only [stepF, if_true, List.getElem_mapIdx, Nat.lt_irrefl, if_false]
theorem stepF_next (f : Nat → List Sect) (n : Nat) (g : Nat → Sect → Sect) {k : Nat} (hk : k < (f n).length) : putF (stepF f n g k) n k (g k (f n)[k]) = stepF f n g (k + 1) := by
  funext m
  unfold putF
  split
  · rename_i e
    subst e
    apply List.ext_getElem
    · simp [stepF]
    · intro i h1 h2
      have hi : i < (f m).length := by rw [stepF_length] at h2; exact h2
      rw [List.getElem_set]
      simp only [stepF, if_true, List.getElem_mapIdx]
      by_cases e : k = i
      · subst e
        rw [if_pos rfl]
        exact (if_pos (Nat.lt_succ_self _)).symm
      · rw [if_neg e]
        by_cases e2 : i < k
        · rw [if_pos e2]
          exact (if_pos (by omega)).symm
        · rw [if_neg e2]
          exact (if_neg (by omega)).symm
  · rename_i e
    simp only [stepF, if_neg e]
section
variable {ts : TypeId} {f : Nat → List Sect} {w : World} {F F' : Nat → Prop} {s : Nat → Value} {X : Nat → List Value}
/-- both cells of a sector are stored to: it is as told, nothing waits -/
theorem FilesAt.set2 (h : FilesAt ts f w F s X) (hts : ts ≠ 28) (hts2 : ts ≠ 5) {n k g c : Nat} (hn : n < 2) (hk : k < (f n).length) (es : s n = .slice (some ⟨g, 0, none⟩) (f n).length c) {u : Value} {l : List Nat} (hu : Txt w F' u l) (hFF : ∀ b, F b → F' b) :
    FilesAt ts (putF f n k ⟨l, []⟩) ((w.setCell ⟨g, 2 * k, none⟩ u).setCell ⟨g, 2 * k + 1, none⟩ (.slice none 0 0)) F' s (updX X n (((X n).set (2 * k) u).set (2 * k + 1) (.slice none 0 0))) := by
  have hb := (h.but n k).mono hFF
  have hr := (hb.row n hn).1
  rw [es] at hr
  have h1 := (hr.stored (2 * k) u).1
  have h2 := (h1.stored (2 * k + 1) (.slice none 0 0)).1
  rw [← es] at h2
  have hXl : (X n).length = 2 * (f n).length := by have := hr.1; omega
  refine hb.put hn hts hts2 h2 (lv := u) (wv := .slice none 0 0) ?_ ?_ ?_ ?_ hu (IsWaits.nil w F') ?_
  · rw [List.getElem?_set_ne (by omega), List.getElem?_set_self (by omega)]
  · rw [List.getElem?_set_self (by rw [List.length_set]; omega)]
  · exact fun j h1 h2 => by rw [List.getElem?_set_ne (by omega), List.getElem?_set_ne (by omega)]
  · rw [es]
    exact ((Only.refl (fun b => (Value.slice (some ⟨g, 0, none⟩) (f n).length c).ownBlock = some b) w).setCell (p := ⟨g, 2 * k, none⟩) (.inl rfl) _).setCell (p := ⟨g, 2 * k + 1, none⟩) (.inl rfl) _
  · exact fun m i v _ _ _ => .inr (.inl rfl)
end
section
variable {D : DevP} {w : World} {F F' : Nat → Prop} {gp : Nat} {s : Nat → Value} {lv : Value} {X : Nat → List Value}
theorem DevAt.set2 (h : DevAt D w F gp s lv X) {n k g c : Nat} (hn : n < 2) (hk : k < (D.f n).length) (es : s n = .slice (some ⟨g, 0, none⟩) (D.f n).length c) {u : Value} {l : List Nat} (hu : Txt w F' u l) (hFF : ∀ b, F b → F' b) :
    DevAt (D.put n k ⟨l, []⟩) ((w.setCell ⟨g, 2 * k, none⟩ u).setCell ⟨g, 2 * k + 1, none⟩ (.slice none 0 0)) F' gp s lv (updX X n (((X n).set (2 * k) u).set (2 * k + 1) (.slice none 0 0))) := by
  have hr := (h.file n hn).1
  rw [es] at hr
  have hg : Ty w g 70 := own_ty hr rfl
  have hgp : gp ≠ g := fun q => by subst q; exact absurd (h.blk.ty.uniq hg) (by decide)
  refine ⟨h.toFilesAt.set2 (by decide) (by decide) hn hk es hu hFF, (h.blk.far hgp _).far hgp _, hFF _ h.inF, IsLeft.mono ?_ hFF⟩
  show IsLeft _ F lv D.left
  cases hl : D.left with
  | none => have := h.left; rw [hl] at this; exact this
  | some q =>
    have := h.left
    rw [hl] at this
    obtain ⟨gl, q1, q2, q3, q4⟩ := this
    have hgl : gl ≠ g := fun q => by subst q; exact absurd (q3.ty.uniq hg) (by decide)
    exact ⟨gl, q1, q2, (q3.far hgl _).far hgl _, q4⟩
theorem DevAt.set2_only (h : DevAt D w F gp s lv X) {n k g c : Nat} (hn : n < 2) (es : s n = .slice (some ⟨g, 0, none⟩) (D.f n).length c) (u : Value) :
    Only (Hard F w) w ((w.setCell ⟨g, 2 * k, none⟩ u).setCell ⟨g, 2 * k + 1, none⟩ (.slice none 0 0)) := by
  obtain ⟨hr, hF, _⟩ := h.file n hn
  rw [es] at hr hF
  have hg : Hard F w g := ⟨hF g rfl, fun q => absurd ((own_ty hr rfl).uniq q) (by decide)⟩
  exact ((Only.refl (Hard F w) w).setCell (p := ⟨g, 2 * k, none⟩) (.inl hg) _).setCell (p := ⟨g, 2 * k + 1, none⟩) (.inl hg) _
end
end Go.Proofs.Ytnbbneldbagohaa
