/- The law DiskParts. Conditions: none. -/
import Derived.Test.YtnbbneldbagohaaDiskKnown
import Derived.Test.YtnbbneldbagohaaArgs
namespace Go.Proofs.Ytnbbneldbagohaa
open Go.ChangeShapes Go.WideShapes Go.ChangeAt Go.RowKit
set_option linter.unusedVariables false
set_option linter.unusedSimpArgs false
set_option maxRecDepth 20000

def zer : List Nat := List.replicate 128 0
theorem zer_length : zer.length = 128 := List.length_replicate
/-- the device behind so many writes to its one sector -/
def pdev (ws : List (List Nat)) : DevP := ⟨fun n => if n = 0 then [⟨zer, ws⟩] else [], none, false⟩
theorem pdev_zero : DevP.new 1 0 = pdev [] := by
  unfold DevP.new pdev
  congr 1
  funext n
  by_cases h : n = 0
  · subst h; rfl
  · rw [if_neg h]
    by_cases h1 : n = 1
    · subst h1; rfl
    · rw [if_neg h, if_neg h1]; rfl
theorem pdev_write (ws : List (List Nat)) (l : List Nat) (hl : l.length = 128) : (pdev ws).write 0 0 l = (0, pdev (ws ++ [l])) := by
  have hh : (pdev ws).has 0 0 := ⟨by omega, by omega, by show (0 : Int) < (([⟨zer, ws⟩] : List Sect).length : Int); simp⟩
  unfold DevP.write
  rw [if_pos hh, if_pos hl]
  have e1 : (pdev ws).goes = (true, pdev ws) := rfl
  rw [e1]
  simp only [if_true]
  congr 1
  unfold DevP.put pdev DevP.sect Sect.more
  congr 1
  funext n
  by_cases h : n = 0
  · subst h; rfl
  · show putF _ 0 _ _ n = _
    unfold putF
    rw [if_neg h]
    exact (if_neg h).trans (if_neg h).symm
/-- what a crash leaves of it -/
def presL (ws : List (List Nat)) (f : FateP) : List Nat := ((⟨zer, ws⟩ : Sect).crash f).last
theorem pdev_crash (ws : List (List Nat)) (f : FateP) (hf : f.file = 0) (hs : f.sector = 0) : ((pdev ws).crash [f]).image 0 = [presL ws f] := by
  have : fateFor [f] 0 0 = f := by
    unfold fateFor
    simp [hf, hs]
  have e1 : ((pdev ws).crash [f]).image 0 = (((pdev ws).f 0).mapIdx fun k s => s.crash (fateFor [f] 0 k)).map Sect.last := rfl
  have e2 : (pdev ws).f 0 = [⟨zer, ws⟩] := rfl
  rw [e1, e2]
  simp [this, presL]
theorem pdev_good (ws : List (List Nat)) (h : ∀ l ∈ ws, l.length = 128) {N : Nat} (hn : ws.length ≤ N) : (pdev ws).good N := fun n hn' => by
  unfold pdev
  by_cases e : n = 0
  · simp only [e, if_true]
    refine ⟨by simp, fun s hs => ?_⟩
    simp at hs
    subst hs
    exact ⟨zer_length, hn, h⟩
  · simp only [e, if_false]
    exact ⟨by simp, fun s hs => by cases hs⟩
/-- there is a place, and how far, from which it is the one sector, up to which the next one -/
theorem pres_split (ws : List (List Nat)) (h : ∀ l ∈ ws, l.length = 128) (f : FateP) : ∃ K T, ∃ hK : K < (zer :: ws).length, (presL ws f).length = 128 ∧
    (∀ j, j < T → j < 128 → (presL ws f)[j]? = ((zer :: ws)[K + 1]?.getD ((zer :: ws)[K]))[j]?) ∧ (∀ j, T ≤ j → (presL ws f)[j]? = ((zer :: ws)[K])[j]?) := by
  have hk : keepN ⟨zer, ws⟩ f ≤ ws.length := Nat.min_le_right _ _
  have hb0 : ∀ K (hK : K < (zer :: ws).length), keptL ⟨zer, ws⟩ K = (zer :: ws)[K] := fun K hK => by
    unfold keptL
    cases K with
    | zero => rfl
    | succ K =>
      rw [if_neg (by omega), List.getElem_cons_succ, Nat.add_sub_cancel]
      show ws[K]?.getD [] = _
      rw [List.getElem?_eq_getElem (by simpa using hK)]
      rfl
  have hb := hb0 (keepN ⟨zer, ws⟩ f) (by simp; omega)
  have h128 := crash_128 (s := ⟨zer, ws⟩) zer_length h f
  refine ⟨keepN ⟨zer, ws⟩ f, if keepN ⟨zer, ws⟩ f < ws.length then min (max f.torn 0).toNat 128 else 0, by simp; omega, h128, ?_, ?_⟩
  · intro j hj h1
    by_cases hlt : keepN ⟨zer, ws⟩ f < ws.length
    · rw [if_pos hlt] at hj
      unfold presL Sect.crash
      simp only [if_pos hlt]
      have hw : ((zer :: ws)[keepN ⟨zer, ws⟩ f + 1]?.getD ((zer :: ws)[keepN ⟨zer, ws⟩ f]'(by simp; omega))) = ws[keepN ⟨zer, ws⟩ f] := by
        rw [List.getElem?_cons_succ, List.getElem?_eq_getElem hlt]; rfl
      rw [hw, List.getElem?_eq_getElem hlt, Option.getD_some]
      have hl := h _ (List.getElem_mem hlt)
      rw [List.getElem?_append_left (by rw [List.length_take, hl]; omega), List.getElem?_take, if_pos hj]
    · rw [if_neg hlt] at hj
      omega
  · intro j hj
    rw [← hb]
    by_cases hlt : keepN ⟨zer, ws⟩ f < ws.length
    · rw [if_pos hlt] at hj
      unfold presL Sect.crash
      simp only [if_pos hlt]
      rw [List.getElem?_eq_getElem hlt, Option.getD_some]
      have hl := h _ (List.getElem_mem hlt)
      have htl : (List.take (min (max f.torn 0).toNat 128) ws[keepN ⟨zer, ws⟩ f]).length = min (max f.torn 0).toNat 128 := by rw [List.length_take, hl]; omega
      rw [List.getElem?_append_right (by rw [htl]; exact hj), htl, List.getElem?_drop]
      congr 1
      omega
    · unfold presL Sect.crash
      simp only [if_neg hlt]
end Go.Proofs.Ytnbbneldbagohaa
