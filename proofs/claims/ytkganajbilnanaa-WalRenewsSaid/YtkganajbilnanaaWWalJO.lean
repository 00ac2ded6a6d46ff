/- The log, plain: opened again. Conditions: nothing waits. -/
import Derived.Test.YtkganajbilnanaaWWalJ
namespace Go.Proofs.Ytkganajbilnanaa
open NumMath
set_option linter.unusedVariables false
set_option linter.unusedSimpArgs false

theorem goodR_take {rs : List RecP} (h : GoodR rs) (j : Nat) : GoodR (rs.take j) := fun r hr => h r (List.mem_of_mem_take hr)
section
variable {L : LogP} {D : DevP} {rs : List RecP} {C : List (List Nat)}
theorem findStep_yes {D : DevP} {k : Nat} {s : HeadP × Nat} {b : List Nat} {h : HeadP} (hr : (D.read 0 (k : Int)).1 = b) (hb : isHead b = true) (hw : wheadP b = h) (hlt : s.1.stamp < h.stamp) : findStep D k s = (h, k) := by
  unfold findStep
  simp only [hr, hb, hw, hlt, and_self, if_true]
theorem findStep_no {D : DevP} {k : Nat} {s : HeadP × Nat} {b : List Nat} (hr : (D.read 0 (k : Int)).1 = b) (hn : isHead b = true → ¬ s.1.stamp < (wheadP b).stamp) : findStep D k s = s := by
  unfold findStep
  simp only [hr]
  split
  · rename_i q
    exact absurd q.2 (hn q.1)
  · rfl
theorem Inv.find (h : Inv L D rs C) : findP D = (L.h, L.slot) := by
  have hb := h.big
  have hl := h.q.live
  have hsl := h.fit.slot
  have hih : isHead (hsec L.h) = true := isHead_hsec h.fit.fits (by have := h.pos; omega) h.may.lo h.may.hi h.may.area
  have hw := wheadP_hsec h.fit.fits
  have hpos := h.pos
  obtain ⟨b0, hb0⟩ : ∃ b0, C[0]? = some b0 := ⟨_, List.getElem?_eq_getElem (by omega)⟩
  obtain ⟨b1, hb1⟩ : ∃ b1, C[1]? = some b1 := ⟨_, List.getElem?_eq_getElem (by omega)⟩
  have r0 : (D.read 0 ((0 : Nat) : Int)).1 = b0 := by
    rw [hl.read (by omega)]
    rw [List.getElem?_eq_getElem (by omega)] at hb0
    exact Option.some.inj hb0
  have r1 : (D.read 0 ((1 : Nat) : Int)).1 = b1 := by
    rw [hl.read (by omega)]
    rw [List.getElem?_eq_getElem (by omega)] at hb1
    exact Option.some.inj hb1
  have hhead := h.head
  have hoth := h.other
  unfold findP
  generalize hsec L.h = hs at *
  rcases (show L.slot = 0 ∨ L.slot = 1 by omega) with e | e
  · rw [e] at hhead hoth ⊢
    rw [hb0] at hhead
    have h0 : b0 = hs := Option.some.inj hhead
    have s0 : findStep D 0 (⟨0, 0, 0, 0⟩, 0) = (L.h, 0) := findStep_yes r0 (by rw [h0]; exact hih) (by rw [h0]; exact hw) hpos
    rw [s0]
    exact findStep_no r1 fun q z => by
      have := hoth b1 hb1 q
      have z' : L.h.stamp < (wheadP b1).stamp := z
      omega
  · rw [e] at hhead hoth ⊢
    rw [hb1] at hhead
    have h1 : b1 = hs := Option.some.inj hhead
    cases hq : isHead b0 with
    | true =>
      by_cases hlt : (0 : Nat) < (wheadP b0).stamp
      · have s0 : findStep D 0 (⟨0, 0, 0, 0⟩, 0) = (wheadP b0, 0) := findStep_yes r0 hq rfl hlt
        rw [s0]
        exact findStep_yes r1 (by rw [h1]; exact hih) (by rw [h1]; exact hw) (hoth b0 hb0 hq)
      · have s0 : findStep D 0 (⟨0, 0, 0, 0⟩, 0) = (⟨0, 0, 0, 0⟩, 0) := findStep_no r0 fun _ => hlt
        rw [s0]
        exact findStep_yes r1 (by rw [h1]; exact hih) (by rw [h1]; exact hw) hpos
    | false =>
      have s0 : findStep D 0 (⟨0, 0, 0, 0⟩, 0) = (⟨0, 0, 0, 0⟩, 0) := findStep_no r0 fun q => by rw [hq] at q; cases q
      rw [s0]
      exact findStep_yes r1 (by rw [h1]; exact hih) (by rw [h1]; exact hw) hpos
theorem Inv.area_is (h : Inv L D rs C) : areaP D (firstP L L.h.area) L.strips = layOf (L.stream.take L.lasts) ++ List.replicate (L.strips - chunks (L.stream.take L.lasts)) zsec := by
  obtain ⟨hp2, hpl⟩ := h.first_in h.fit.area
  have hlen := h.fit.len
  have hla := h.fit.lasts
  have hc : chunks (L.stream.take L.lasts) ≤ L.strips := by
    unfold chunks
    rw [List.length_take]
    omega
  apply List.ext_getElem
  · rw [area_length, List.length_append, layOf_length', List.length_replicate]
    omega
  · intro i h1 h2
    rw [area_length] at h1
    have e : (areaP D (firstP L L.h.area) L.strips)[i]? = some (wantAt (layOf (L.stream.take L.lasts)) i) := by
      unfold areaP
      rw [List.getElem?_map, List.getElem?_range h1, Option.map_some, h.q.live.read (by omega), ← h.area i h1, List.getElem?_eq_getElem]
    rw [List.getElem?_eq_getElem (by rw [area_length]; exact h1)] at e
    rw [Option.some.inj e]
    unfold wantAt
    rcases Nat.lt_or_ge i (chunks (L.stream.take L.lasts)) with z | z
    · rw [List.getElem_append_left (by rw [layOf_length']; exact z), List.getElem?_eq_getElem (by rw [layOf_length']; exact z)]
      rfl
    · rw [List.getElem_append_right (by rw [layOf_length']; exact z), List.getElem_replicate, List.getElem?_eq_none (by rw [layOf_length']; exact z)]
      rfl
theorem Inv.opened (h : Inv L D rs C) : opens D = true ∧ ∃ j, j ≤ rs.length ∧ L.lasts = offK rs j ∧ openR D = rs.take j ∧ openL D = ⟨L.h, L.strips, L.slot, (rs.take j).flatMap encL, offs 0 (rs.take j), ((rs.take j).flatMap encL).length⟩ := by
  obtain ⟨j, hj, hm⟩ := h.mark
  have hf := h.find
  have hsz : D.size 0 = C.length := by
    show (if 0 < 2 then (D.f 0).length else 0) = _
    rw [if_pos (by omega)]
    exact h.q.length
  have hs : (D.size 0 - 2) / 2 = L.strips := by rw [hsz]; exact h.strips.symm
  have hR : openR D = rs.take j := by
    unfold openR
    rw [hf, hs]
    show recsOf (readL (areaP D (firstP L L.h.area) L.strips)) = _
    rw [h.area_is, read_pad _ _ _ (Nat.le_refl _), hm, h.fit.recs.stream, take_off]
    have := recsOf_enc (goodR_take h.fit.recs.good j) []
    rw [List.append_nil] at this
    rw [this]
    show rs.take j ++ recsOf [] = _
    rw [show recsOf [] = [] from rfl, List.append_nil]
  refine ⟨?_, j, hj, hm, hR, ?_⟩
  · unfold opens
    rw [hf, decide_eq_true (by rw [hsz]; exact h.big), decide_eq_true h.pos]
    rfl
  · unfold openL
    rw [hR, hf, hs]
theorem Inv.crash (h : Inv L D rs C) (l : List FateP) : Inv L (D.crash l) rs C :=
  ⟨h.q.crash l, h.fit, h.may, h.pos, h.size, h.strips, h.big, h.head, h.other, h.area, h.mark⟩
/-- all lasts: all is opened -/
theorem Inv.openedAll (h : Inv L D rs C) (hl : L.lasts = L.stream.length) : opens D = true ∧ openR D = rs ∧ openL D = ⟨L.h, L.strips, L.slot, L.stream, L.starts, L.stream.length⟩ := by
  obtain ⟨h1, j, hj, hm, hR, hL⟩ := h.opened
  have hjr : rs.take j = rs := by
    rcases Nat.lt_or_ge j rs.length with z | z
    · exfalso
      have := offK_mono h.fit.recs.good (Nat.le_of_lt z) (Nat.le_refl _)
      rw [offK_all rs (Nat.le_refl _), ← h.fit.recs.stream] at this
      omega
    · exact List.take_of_length_le z
  rw [hjr] at hR hL
  exact ⟨h1, hR, by rw [hL, ← h.fit.recs.stream, ← h.fit.recs.starts]⟩
end
end Go.Proofs.Ytkganajbilnanaa
