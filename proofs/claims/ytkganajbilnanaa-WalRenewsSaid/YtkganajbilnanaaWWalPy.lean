/- A log that is played, plain. Conditions: none; no program in sight. -/
import Derived.Test.YtkganajbilnanaaWWalJO
import Derived.Test.YtkganajbilnanaaWWalPl
namespace Go.Proofs.Ytkganajbilnanaa
open NumMath
set_option linter.unusedVariables false
set_option linter.unusedSimpArgs false

/-- what holds behind so many calls -/
structure Ok8 (L : LogP) (D : DevP) (rs : List RecP) (i : Nat) : Prop where
  inv : ∃ C, Inv L D rs C
  good : D.good (2000 + 1500 * i)
  base : L.h.base ≤ 1 + 88900 * i
  stamp : L.h.stamp ≤ 2 + i
section
variable {L : LogP} {D : DevP} {rs : List RecP} {i : Nat}
theorem Ok8.fit (h : Ok8 L D rs i) : L.fit rs := by
  obtain ⟨C, q⟩ := h.inv
  exact q.fit
theorem Ok8.len (h : Ok8 L D rs i) : L.stream.length ≤ 88900 := by
  have h1 := h.fit.len
  have h2 := h.fit.strips
  omega
theorem Ok8.left (h : Ok8 L D rs i) : D.left = none := by
  obtain ⟨C, q⟩ := h.inv
  exact q.q.left
theorem Ok8.run (h : Ok8 L D rs i) : D.halted = false := by
  obtain ⟨C, q⟩ := h.inv
  exact q.q.run
theorem Ok8.mono {j : Nat} (h : Ok8 L D rs i) (hj : i ≤ j) : Ok8 L D rs j := ⟨h.inv, h.good.mono (by omega), by have := h.base; omega, by have := h.stamp; omega⟩
theorem Ok8.flush (h : Ok8 L D rs i) (lsn : Nat) : Ok8 (flushL L lsn) (flushD L D lsn) rs (i + 1) := by
  obtain ⟨C, q⟩ := h.inv
  refine ⟨q.flush lsn, (flushD_good h.fit.ok h.good lsn).mono (by omega), ?_, ?_⟩
  · rw [flushL_h]; have := h.base; omega
  · rw [flushL_h]; have := h.stamp; omega
theorem Ok8.markk (h : Ok8 L D rs i) (hi : i ≤ 100) {lsn : Nat} (hl : lsn < 18446744073709551616) : Ok8 (markL L lsn) (markD L D lsn) rs (i + 1) := by
  obtain ⟨C, q⟩ := h.inv
  have hst := h.stamp
  refine ⟨q.markk hl (by omega), (sayD_good (flushD_good h.fit.ok h.good topN)).mono (by omega), ?_, ?_⟩
  · show (flushL L topN).h.base ≤ _
    rw [flushL_h]; have := h.base; omega
  · show ((flushL L topN).h.stamp + 1) % 18446744073709551616 ≤ _
    rw [flushL_h, Nat.mod_eq_of_lt (by omega)]
    omega
theorem Ok8.renew (h : Ok8 L D rs i) (hi : i ≤ 100) : Ok8 (renewL L) (renewD L D) [] (i + 1) := by
  obtain ⟨C, q⟩ := h.inv
  have hst := h.stamp
  have hb := h.base
  have hl := h.len
  have hs := h.fit.strips
  refine ⟨q.renew (by omega) (by omega), (sayD_good (makeP_good (flushD_good h.fit.ok h.good topN) _ L.strips [])).mono (by omega), ?_, ?_⟩
  · show L.h.base + L.stream.length ≤ _
    omega
  · show (L.h.stamp + 1) % 18446744073709551616 ≤ _
    rw [Nat.mod_eq_of_lt (by omega)]
    omega
theorem Ok8.append (h : Ok8 L D rs i) {r : RecP} (hf : r.Fits) (spare : Nat) : Ok8 (appP L r spare).2 D (if (appP L r spare).1.2 = 0 then rs ++ [r] else rs) (i + 1) := by
  obtain ⟨C, q⟩ := h.inv
  have hh : (appP L r spare).2.h = L.h := by
    unfold appP
    split
    · rfl
    · split <;> rfl
  refine ⟨⟨C, q.append hf spare⟩, h.good.mono (by omega), ?_, ?_⟩
  · rw [hh]; have := h.base; omega
  · rw [hh]; have := h.stamp; omega
theorem Ok8.step (h : Ok8 L D rs i) (hi : i ≤ 100) (x : WOp) (hf : x.r.Fits) (ha : x.at_ < 18446744073709551616) : Ok8 (stepP L D rs x).1 (stepP L D rs x).2.1 (stepP L D rs x).2.2 (i + 1) := by
  unfold stepP
  split
  · exact h.flush _
  · split
    · exact h.markk hi ha
    · split
      · exact h.renew hi
      · split
        · exact h.append hf _
        · exact h.mono (by omega)
end
/-- all calls -/
def playP (s : LogP × DevP × List RecP) : List WOp → LogP × DevP × List RecP
  | [] => s
  | x :: xs => playP (stepP s.1 s.2.1 s.2.2 x) xs
theorem playP_snoc (l : List WOp) (x : WOp) : ∀ s, playP s (l ++ [x]) = stepP (playP s l).1 (playP s l).2.1 (playP s l).2.2 x := by
  induction l with
  | nil => exact fun s => rfl
  | cons y l ih => exact fun s => ih _
theorem ok8_new {a : Nat} (h1 : 18 ≤ a) (h2 : a ≤ 1400) : Ok8 (newL (DevP.new a 0)) (newD (DevP.new a 0)) [] 0 := by
  have hg : (DevP.new a 0).good 0 := DevP.good_new (by omega) (by omega)
  have hz : (DevP.new a 0).size 0 = a := by
    show (if 0 < 2 then (List.replicate _ _).length else 0) = a
    rw [if_pos (by omega), List.length_replicate]
    rfl
  refine ⟨inv_new h1 h2, ?_, ?_, ?_⟩
  · exact (sayD_good (makeP_good hg 0 _ [])).mono (by rw [hz]; omega)
  · show (newL (DevP.new a 0)).h.base ≤ 1 + 88900 * 0
    exact Nat.le_refl 1
  · show (0 + 1) % 18446744073709551616 ≤ 2 + 0
    omega
end Go.Proofs.Ytkganajbilnanaa
