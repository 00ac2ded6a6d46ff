/- A halted device and one to which only so many calls were made: the plain law. Conditions: none. -/
import Derived.Test.YtnbbneldbagohaaDiskTwo
namespace Go.Proofs.Ytnbbneldbagohaa
set_option linter.unusedVariables false
set_option linter.unusedSimpArgs false

/-- does a call count? -/
def cntB (x : OpP) : Bool :=
  if x.kind % 9 = 5 then decide (x.file < 2) else if x.kind % 9 < 4 then decide (x.file < 2 ∧ 0 ≤ x.sector ∧ x.sector < 8 ∧ (x.kind % 9 < 3 ∨ x.data.length = 128)) else false
structure Ha (DA DB : DevP) (lf : Int) : Prop where
  left : DA.left = some (max lf 0).toNat
  hal : DA.halted = decide (lf < 0)
  lb : DB.left = none
  f : DA.f = DB.f
  len : ∀ n, n < 2 → (DA.f n).length = 8
theorem write_not {D : DevP} (hlen : ∀ n, n < 2 → (D.f n).length = 8) {n : Nat} {i : Int} {l : List Nat} (h : ¬ (n < 2 ∧ 0 ≤ i ∧ i < 8 ∧ l.length = 128)) : (D.write n i l).2 = D := by
  unfold DevP.write
  by_cases hh : D.has n i
  · rw [if_pos hh]
    obtain ⟨h1, h2, h3⟩ := hh
    rw [hlen n h1] at h3
    rw [if_neg (fun e => h ⟨h1, h2, by omega, e⟩)]
  · rw [if_neg hh]
theorem plays_not {D : DevP} (hlen : ∀ n, n < 2 → (D.f n).length = 8) {x : OpP} (h : cntB x = false) : (D.plays x).2 = D := by
  unfold cntB at h
  unfold DevP.plays
  split
  · rename_i h3
    rw [if_neg (by omega), if_pos (by omega)] at h
    simp only [decide_eq_false_iff_not] at h
    exact write_not hlen fun q => h ⟨q.1, q.2.1, q.2.2.1, .inl h3⟩
  · rename_i h3
    split
    · rename_i h4
      rw [if_neg (by omega), if_pos (by omega)] at h
      simp only [decide_eq_false_iff_not] at h
      exact write_not hlen fun q => h ⟨q.1, q.2.1, q.2.2.1, .inr q.2.2.2⟩
    · split
      · rename_i h5
        rw [if_pos h5] at h
        simp only [decide_eq_false_iff_not] at h
        exact if_neg h
      · rfl
/-- what a call that counts does to the sectors, when it is done -/
def playF (f : Nat → List Sect) (x : OpP) : Nat → List Sect :=
  if x.kind % 9 = 5 then fun m => if m = x.file then (f m).mapIdx (fun _ s => ⟨s.newest, []⟩) else f m
  else putF f x.file x.sector.toNat (((f x.file)[x.sector.toNat]?.getD ⟨[], []⟩).more (if x.kind % 9 < 3 then fullL x.data else x.data))
theorem plays_cnt {D : DevP} (hlen : ∀ n, n < 2 → (D.f n).length = 8) {x : OpP} (h : cntB x = true) :
    (D.plays x) = (true, if D.goes.1 then { D.goes.2 with f := playF D.f x } else D.goes.2) := by
  unfold cntB at h
  have hw : ∀ l : List Nat, l.length = 128 → x.file < 2 → 0 ≤ x.sector → x.sector < 8 → D.write x.file x.sector l = (0, if D.goes.1 then { D.goes.2 with f := putF D.f x.file x.sector.toNat (((D.f x.file)[x.sector.toNat]?.getD ⟨[], []⟩).more l) } else D.goes.2) := fun l hl h1 h2 h3 => by
    unfold DevP.write
    rw [if_pos ⟨h1, h2, by rw [hlen _ h1]; omega⟩, if_pos hl]
    congr 1
    split
    · unfold DevP.put DevP.sect
      rw [DevP.goes_f]
    · rfl
  unfold DevP.plays playF
  by_cases h5 : x.kind % 9 = 5
  · rw [if_pos h5] at h
    rw [if_neg (by omega), if_neg (by omega), if_pos h5, if_pos h5]
    unfold DevP.sync
    rw [if_pos (by simpa using h)]
    rfl
  · rw [if_neg h5] at h
    by_cases h4 : x.kind % 9 < 4
    · rw [if_pos h4] at h
      simp only [decide_eq_true_eq] at h
      obtain ⟨h1, h2, h3, h6⟩ := h
      by_cases h7 : x.kind % 9 < 3
      · simp only [if_pos h7, if_neg h5, hw _ (fullL_length _) h1 h2 h3]
        rfl
      · have h8 : x.data.length = 128 := h6.resolve_left h7
        have h9 : x.kind % 9 = 3 := by omega
        simp only [if_neg h7, if_pos h9, if_neg h5, hw _ h8 h1 h2 h3]
        rfl
    · rw [if_neg h4] at h
      cases h
theorem playF_length (f : Nat → List Sect) (x : OpP) (m : Nat) : (playF f x m).length = (f m).length := by
  unfold playF
  split
  · show (if m = x.file then _ else _ : List Sect).length = _
    split
    · simp
    · rfl
  · exact putF_length _ _ _ _ _
theorem Ha.not {DA DB : DevP} {lf : Int} (h : Ha DA DB lf) {x : OpP} (hc : cntB x = false) : (DA.plays x).2 = DA ∧ (DB.plays x).2 = DB :=
  ⟨plays_not h.len hc, plays_not (by rw [← h.f]; exact h.len) hc⟩
theorem Ha.go {DA DB : DevP} {lf : Int} (h : Ha DA DB lf) {x : OpP} (hc : cntB x = true) (hl : 0 < lf) : Ha (DA.plays x).2 (DB.plays x).2 (lf - 1) := by
  rw [plays_cnt h.len hc, plays_cnt (D := DB) (by rw [← h.f]; exact h.len) hc]
  obtain ⟨k, hk⟩ : ∃ k, (max lf 0).toNat = k + 1 := ⟨(max lf 0).toNat - 1, by omega⟩
  have hg : DA.goes = (true, { DA with left := some k }) := by unfold DevP.goes; rw [h.left, hk]
  rw [hg, goes_none h.lb]
  simp only [if_true]
  refine ⟨?_, ?_, h.lb, by show playF DA.f x = playF DB.f x; rw [h.f], fun n hn => by show (playF DA.f x n).length = 8; rw [playF_length]; exact h.len n hn⟩
  · show some k = some _
    congr 1
    omega
  · show DA.halted = _
    rw [h.hal]
    rw [Bool.eq_iff_iff, decide_eq_true_iff, decide_eq_true_iff]
    omega
theorem Ha.stop {DA DB : DevP} {lf : Int} (h : Ha DA DB lf) {x : OpP} (hc : cntB x = true) (hl : lf ≤ 0) : Ha (DA.plays x).2 DB (lf - 1) := by
  rw [plays_cnt h.len hc]
  have hk : (max lf 0).toNat = 0 := by omega
  have hg : DA.goes = (false, { DA with halted := true }) := by unfold DevP.goes; rw [h.left, hk]
  rw [hg]
  refine ⟨?_, ?_, h.lb, h.f, h.len⟩
  · show DA.left = _
    rw [h.left]
    congr 1
    omega
  · show true = _
    rw [eq_comm, decide_eq_true_iff]
    omega
theorem Ha.start {k : Nat} (D : DevP) (hl : D.left = none) (hh : D.halted = false) (hlen : ∀ n, n < 2 → (D.f n).length = 8) : Ha (D.halt k) D k :=
  ⟨rfl, by show D.halted = _; rw [hh, eq_comm, decide_eq_false_iff_not]; omega, hl, rfl, hlen⟩
theorem Ha.crash {DA DB : DevP} {lf : Int} (h : Ha DA DB lf) (l : List FateP) : DA.crash l = DB.crash l := by
  unfold DevP.crash
  rw [h.f]
theorem write_halted {D : DevP} (h : D.left = none) (n : Nat) (i : Int) (l : List Nat) : (D.write n i l).2.halted = D.halted := by
  unfold DevP.write
  rw [goes_none h]
  split
  · split <;> rfl
  · rfl
theorem plays0 {D : DevP} (hl : D.left = none) (hlen : (D.f 0).length = 8) : (D.plays ⟨0, 0, 0, [1], []⟩).1 = true ∧ (D.plays ⟨0, 0, 0, [1], []⟩).2.halted = D.halted := by
  have e : D.plays ⟨0, 0, 0, [1], []⟩ = (decide ((D.write 0 0 (fullL [1])).1 = 0), (D.write 0 0 (fullL [1])).2) := rfl
  rw [e]
  refine ⟨?_, write_halted hl _ _ _⟩
  rw [decide_eq_true_iff]
  unfold DevP.write
  rw [if_pos ⟨by omega, by omega, by rw [hlen]; omega⟩, if_pos (fullL_length _)]
theorem Ha.image {DA DB : DevP} {lf : Int} (h : Ha DA DB lf) (n : Nat) : DA.image n = DB.image n := by
  unfold DevP.image
  rw [h.f]
end Go.Proofs.Ytnbbneldbagohaa
