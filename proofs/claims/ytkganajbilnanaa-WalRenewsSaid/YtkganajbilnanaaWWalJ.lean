/- The log, plain: what stays true of it by each call. Conditions: none; no program in sight. -/
import Derived.Test.YtkganajbilnanaaWWalI
import Derived.Test.YtkganajbilnanaaWWalP
import Derived.Test.YtkganajbilnanaaWWalRN
namespace Go.Proofs.Ytkganajbilnanaa
open NumMath
set_option linter.unusedVariables false
set_option linter.unusedSimpArgs false

theorem lay_at (l : List Nat) (i : Nat) : wantAt (layOf l) i = if i < chunks l then sectorOf (chunkOf l i) else zsec := by
  unfold wantAt layOf
  rw [List.getElem?_map]
  split
  · rename_i h
    rw [List.getElem?_range h]
    rfl
  · rename_i h
    rw [List.getElem?_eq_none (by rw [List.length_range]; omega)]
    rfl
/-- full sectors of a front are those of the whole -/
theorem chunk_front (l : List Nat) {a b i : Nat} (hab : a ≤ b) (ha : a ≤ l.length) (h : 127 * (i + 1) ≤ a) : chunkOf (l.take a) i = chunkOf (l.take b) i := by
  unfold chunkOf
  rw [List.drop_take, List.drop_take, List.take_take, List.take_take]
  congr 1
  omega
theorem read_pad (m : Nat) : ∀ (n : Nat) (l : List Nat), l.length ≤ n → readL (layOf l ++ List.replicate m zsec) = l := by
  intro n
  induction n using Nat.strongRecOn with
  | ind n ih =>
    intro l hl
    by_cases h : l = []
    · subst h
      rw [layOf_nil, List.nil_append]
      exact read_zeros m
    · have hp := List.length_pos_iff.2 h
      rw [layOf_cons h, List.cons_append, read_sector (by rw [List.length_take]; omega)]
      split
      · rename_i hlt
        rw [List.length_take] at hlt
        rw [List.take_of_length_le (by omega)]
      · rename_i hge
        rw [List.length_take] at hge
        rw [ih (l.drop 127).length (by rw [List.length_drop]; omega) _ (Nat.le_refl _), List.take_append_drop]
section
variable {L : LogP} {D : DevP} {rs : List RecP} {C : List (List Nat)}
theorem Inv.first_in (h : Inv L D rs C) {a : Nat} (ha : a < 2) : 2 ≤ firstP L a ∧ firstP L a + L.strips ≤ C.length := by
  have := h.size
  unfold firstP
  rcases (show a = 0 ∨ a = 1 by omega) with rfl | rfl <;> omega
/-- Append -/
theorem Inv.append (h : Inv L D rs C) {r : RecP} (hf : r.Fits) (spare : Nat) : Inv (appP L r spare).2 D (if (appP L r spare).1.2 = 0 then rs ++ [r] else rs) C := by
  unfold appP
  cases hok : okR r with
  | false => simp; exact h
  | true =>
    simp only [Bool.true_eq_false, if_false]
    split
    · simp; exact h
    · rename_i hr
      simp only [if_true]
      have hl := h.fit.lasts
      have hhi := h.may.hi
      have hst := h.fit.strips
      have hlen : (L.stream ++ encL r).length ≤ L.strips * 127 := by rw [List.length_append]; omega
      refine ⟨h.q, ⟨hst, h.fit.fits, h.fit.area, h.fit.slot, hlen, by show L.lasts ≤ (L.stream ++ encL r).length; rw [List.length_append]; omega, by show L.h.base + (L.stream ++ encL r).length < _; omega, h.fit.recs.snoc hok hf⟩, h.may, h.pos, h.size, h.strips, h.big, h.head, h.other, fun i hi => ?_, ?_⟩
      · rw [show ({ L with starts := L.starts ++ [L.stream.length], stream := L.stream ++ encL r } : LogP).stream.take L.lasts = L.stream.take L.lasts from by
          show (L.stream ++ encL r).take L.lasts = _
          rw [List.take_append_of_le_length hl]]
        exact h.area i hi
      · obtain ⟨j, hj, e⟩ := h.mark
        refine ⟨j, by rw [List.length_append]; omega, ?_⟩
        show L.lasts = _
        rw [e]
        unfold offK
        rw [List.take_append_of_le_length hj]
theorem kP_le (h : L.fit rs) (lsn : Nat) : kP L lsn ≤ rs.length := by
  unfold kP
  have h1 := @atP_le L lsn
  rw [h.recs.cnt] at h1
  cases hb : (atP L lsn).2 with
  | false => rw [if_neg (by simp)]; exact h1
  | true =>
    rw [if_pos rfl]
    obtain ⟨k, hk, e⟩ := h.recs.hit' hb
    have := h.recs.hit hk
    rw [← e] at this
    rw [this]
    exact hk
theorem toP_eq (h : L.fit rs) (lsn : Nat) : toP L lsn = offK rs (kP L lsn) := by
  have hk := kP_le h lsn
  unfold toP
  split
  · rename_i e
    rw [e]
    rfl
  · rename_i e
    have := h.recs.behind (k := kP L lsn - 1) (by omega)
    rw [this]
    congr 1
    omega
theorem toP_top (h : L.fit rs) : toP L topN = L.stream.length := by
  rw [toP_eq h]
  have hb := h.base
  have : kP L topN = rs.length := by
    have e : atP L topN = (L.starts.length, false) := by
      unfold atP topN
      rw [if_neg (by omega), if_pos (by omega)]
    unfold kP
    rw [e, h.recs.cnt]
    rfl
  rw [this, offK_all rs (Nat.le_refl _), h.recs.stream]
/-- Flush -/
theorem Inv.flush (h : Inv L D rs C) (lsn : Nat) : ∃ C', Inv (flushL L lsn) (flushD L D lsn) rs C' := by
  have hfit := h.fit
  have hto := toP_le hfit.ok lsn
  have hmk := toP_eq hfit lsn
  have hk := kP_le hfit lsn
  unfold flushL flushD
  by_cases hle : toP L lsn ≤ L.lasts
  · rw [if_pos hle, if_pos hle]
    exact ⟨C, h⟩
  · rw [if_neg hle, if_neg hle]
    generalize toP L lsn = t at *
    obtain ⟨f, hf⟩ : ∃ f, L.lasts / 127 = f := ⟨_, rfl⟩
    have hrows : flushS L t = (layOf (L.stream.take t)).drop f := by unfold flushS; rw [hf]
    rw [hf]
    have htl : (L.stream.take t).length = t := by rw [List.length_take]; omega
    have hcl : chunks (L.stream.take t) = (t + 126) / 127 := by unfold chunks; rw [htl]
    have hc2 : chunks (L.stream.take L.lasts) = (L.lasts + 126) / 127 := by unfold chunks; rw [List.length_take, Nat.min_eq_left hfit.lasts]
    have hm : (flushS L t).length = (t + 126) / 127 - f := by rw [hrows, List.length_drop, layOf_length', hcl]
    have hlen := hfit.len
    obtain ⟨hp2, hpl⟩ := h.first_in hfit.area
    generalize hp : firstP L L.h.area = p at *
    have hm2 : (flushS L t).length ≤ L.strips - f := by rw [hm]; omega
    have hfs : f ≤ L.strips := by omega
    have h128 : ∀ l ∈ flushS L t, l.length = 128 := fun l hl => by
      rw [hrows] at hl
      exact lay_128 _ l (List.mem_of_mem_drop hl)
    have hq := (wrN_live (p := p + f) h.q.live h128 (flushS L t).length (Nat.le_refl _) (by omega)).sync
    have hat := updN_at C (p + f) (flushS L t) (flushS L t).length
    refine ⟨updN C (p + f) (flushS L t) (flushS L t).length, hq, ?_, h.may, h.pos, by rw [updN_length]; exact h.size, by rw [updN_length]; exact h.strips, by rw [updN_length]; exact h.big, ?_, ?_, ?_, ⟨kP L lsn, hk, hmk⟩⟩
    · exact ⟨hfit.strips, hfit.fits, hfit.area, hfit.slot, hfit.len, hto, hfit.base, ⟨hfit.recs.stream, hfit.recs.starts, hfit.recs.good⟩⟩
    · have := hfit.slot
      show (updN C (p + f) (flushS L t) (flushS L t).length)[L.slot]? = _
      rw [hat _ (by omega), if_neg (by omega)]
      exact h.head
    · intro b hb
      have := hfit.slot
      rw [show ({ L with lasts := t } : LogP).slot = L.slot from rfl, hat _ (by omega), if_neg (by omega)] at hb
      exact h.other b hb
    · intro i hi
      have hi' : i < L.strips := hi
      show (updN C (p + f) (flushS L t) (flushS L t).length)[firstP L L.h.area + i]? = some (wantAt (layOf (L.stream.take t)) i)
      rw [hp, hat _ (by omega)]
      by_cases hin : p + f ≤ p + i ∧ p + i < p + f + (flushS L t).length
      · rw [if_pos hin]
        congr 1
        unfold wantAt
        rw [hrows, List.getElem?_drop]
        congr 2
        omega
      · rw [if_neg hin]
        have := h.area i hi'
        rw [hp] at this
        rw [this]
        congr 1
        rw [lay_at, lay_at, hcl, hc2]
        by_cases h1 : i < f
        · rw [if_pos (by omega), if_pos (by omega), chunk_front L.stream (a := L.lasts) (b := t) (by omega) hfit.lasts (by omega)]
        · rw [if_neg (by omega), if_neg (by omega)]
/-- say, of a log that is to be -/
theorem Inv.say (h : Inv L D rs C) (L1 : LogP) {rs1 : List RecP} (hslot : L1.slot = L.slot) (hstamp : L1.h.stamp = L.h.stamp) (hstr : L1.strips = L.strips) (hmay : L1.h.may) (hs : L.h.stamp + 1 < 18446744073709551616) (hfit : L1.fit rs1)
    (harea : ∀ i, i < L1.strips → C[firstP L1 L1.h.area + i]? = some (wantAt (layOf (L1.stream.take L1.lasts)) i)) (hmark : ∃ j, j ≤ rs1.length ∧ L1.lasts = offK rs1 j) :
    ∃ C', Inv (sayL L1) (sayD L1 D) rs1 C' := by
  have hb := h.big
  have hsl := h.fit.slot
  have e1 : (sayL L1).h.stamp = L.h.stamp + 1 := by
    show (L1.h.stamp + 1) % 18446744073709551616 = _
    rw [hstamp, Nat.mod_eq_of_lt hs]
  have e2 : (sayL L1).slot = 1 - L.slot := by show 1 - L1.slot = _; rw [hslot]
  have hmay' : (sayL L1).h.may := ⟨⟨by rw [e1]; omega, hmay.fits.2⟩, hmay.area, hmay.lo, hmay.hi⟩
  have hq := sayD_quiet (L := L1) h.q (by omega)
  rw [hslot] at hq
  refine ⟨_, hq, ⟨hfit.strips, hmay'.fits, hmay'.area, by rw [e2]; omega, hfit.len, hfit.lasts, hfit.base, ⟨hfit.recs.stream, hfit.recs.starts, hfit.recs.good⟩⟩, hmay', by rw [e1]; omega, ?_, ?_, by rw [List.length_set]; exact hb, ?_, ?_, ?_, hmark⟩
  · show 2 + 2 * L1.strips ≤ _
    rw [List.length_set, hstr]
    exact h.size
  · show L1.strips = _
    rw [List.length_set, hstr]
    exact h.strips
  · rw [e2]
    exact List.getElem?_set_self (by omega)
  · intro b hbb hh
    rw [e2] at hbb
    rw [e1]
    rw [List.getElem?_set_ne (by omega), show 1 - (1 - L.slot) = L.slot by omega, h.head] at hbb
    injection hbb with hbb
    subst hbb
    rw [wheadP_hsec h.fit.fits]
    exact Nat.lt_succ_self _
  · intro i hi
    have h2 : 2 ≤ firstP L1 L1.h.area := by unfold firstP; omega
    show (C.set _ _)[firstP L1 L1.h.area + i]? = some (wantAt (layOf (L1.stream.take L1.lasts)) i)
    rw [List.getElem?_set_ne (by omega)]
    exact harea i hi
/-- Mark -/
theorem Inv.markk (h : Inv L D rs C) {lsn : Nat} (hl : lsn < 18446744073709551616) (hs : L.h.stamp + 1 < 18446744073709551616) : ∃ C', Inv (markL L lsn) (markD L D lsn) rs C' := by
  obtain ⟨C1, h1⟩ := h.flush topN
  have e := flushL_h L topN
  have hm : (markM L lsn).h.may := ⟨⟨by rw [show (markM L lsn).h.stamp = (flushL L topN).h.stamp from rfl, e]; exact h.may.fits.1, by rw [show (markM L lsn).h.base = (flushL L topN).h.base from rfl, e]; exact h.may.fits.2.1, hl, h1.may.fits.2.2.2⟩, h1.may.area, h1.may.lo, h1.may.hi⟩
  exact h1.say (markM L lsn) rfl rfl rfl hm (by rw [e]; exact hs) ⟨h1.fit.strips, hm.fits, h1.fit.area, h1.fit.slot, h1.fit.len, h1.fit.lasts, h1.fit.base, ⟨h1.fit.recs.stream, h1.fit.recs.starts, h1.fit.recs.good⟩⟩ h1.area h1.mark
/-- Renew -/
theorem Inv.renew (h : Inv L D rs C) (hs : L.h.stamp + 1 < 18446744073709551616) (hb : L.h.base + L.stream.length ≤ 9223372036854775808) : ∃ C', Inv (renewL L) (renewD L D) [] C' := by
  obtain ⟨C1, h1⟩ := h.flush topN
  have e := flushL_h L topN
  have es := flushL_slot L topN
  have er := flushL_strips L topN
  have hna : 1 - L.h.area < 2 := by omega
  obtain ⟨hp2, hpl⟩ := h1.first_in hna
  have hpe : firstP (flushL L topN) (1 - L.h.area) = firstP L (1 - L.h.area) := by unfold firstP; rw [er]
  rw [hpe, er] at hpl
  rw [hpe] at hp2
  have hq := makeP_quiet h1.q (p := firstP L (1 - L.h.area)) (n := L.strips) (want := []) (fun l hl => by cases hl) hpl
  have hat := updN_at C1 (firstP L (1 - L.h.area)) [] L.strips
  have hsl := h1.fit.slot
  -- the other area is of noughts; the log itself is as it was
  have hm : (renewM L).h.may := ⟨⟨h.may.fits.1, by show L.h.base + L.stream.length < _; omega, by show (0 : Nat) < _; decide, by show 1 - L.h.area < 256; omega⟩, hna, by have := h.may.lo; show 1 ≤ L.h.base + L.stream.length; omega, hb⟩
  have h2 : ∃ C', Inv (sayL (renewM L)) (sayD (renewM L) (makeP (flushD L D topN) (firstP L (1 - L.h.area)) L.strips [])) [] C' := by
    have hbig := h1.big
    have hstep : L.h.stamp = (flushL L topN).h.stamp := by rw [e]
    -- say's law, with the device behind make
    have hb2 := h1.big
    have e1 : (sayL (renewM L)).h.stamp = L.h.stamp + 1 := by
      show (L.h.stamp + 1) % 18446744073709551616 = _
      rw [Nat.mod_eq_of_lt hs]
    have e2 : (sayL (renewM L)).slot = 1 - L.slot := rfl
    have hmay' : (sayL (renewM L)).h.may := ⟨⟨by rw [e1]; omega, hm.fits.2⟩, hm.area, hm.lo, hm.hi⟩
    have hlen := updN_length C1 (firstP L (1 - L.h.area)) [] L.strips
    have hq2 := sayD_quiet (L := renewM L) hq (by omega)
    rw [es] at hsl
    refine ⟨_, hq2, ⟨h.fit.strips, hmay'.fits, hmay'.area, by rw [e2]; omega, Nat.zero_le _, Nat.le_refl _, by show L.h.base + L.stream.length + 0 < _; omega, ⟨rfl, rfl, fun r hr => by cases hr⟩⟩, hmay', by rw [e1]; omega, ?_, ?_, by rw [List.length_set, hlen]; exact hbig, ?_, ?_, ?_, ⟨0, Nat.le_refl _, rfl⟩⟩
    · show 2 + 2 * L.strips ≤ _
      rw [List.length_set, hlen]
      have := h1.size
      rw [er] at this
      exact this
    · show L.strips = _
      rw [List.length_set, hlen]
      have := h1.strips
      rw [er] at this
      exact this
    · rw [e2]
      exact List.getElem?_set_self (by omega)
    · intro b hbb hh
      rw [e2] at hbb
      rw [e1]
      have hsl0 := h.fit.slot
      rw [List.getElem?_set_ne (by show 1 - L.slot ≠ _; omega), show 1 - (1 - L.slot) = L.slot by omega, hat _ (by omega), if_neg (by omega)] at hbb
      have hh1 := h1.head
      rw [es, e] at hh1
      rw [hh1] at hbb
      injection hbb with hbb
      subst hbb
      rw [wheadP_hsec h.fit.fits]
      exact Nat.lt_succ_self _
    · intro i hi
      have hi' : i < L.strips := hi
      show ((updN C1 (firstP L (1 - L.h.area)) [] L.strips).set _ _)[firstP (renewM L) (renewM L).h.area + i]? = some (wantAt (layOf (([] : List Nat).take 0)) i)
      have hfp : firstP (renewM L) (renewM L).h.area = firstP L (1 - L.h.area) := rfl
      rw [hfp, List.getElem?_set_ne (by show 1 - L.slot ≠ _; omega), hat _ (by omega), if_pos (by omega)]
      rfl
  exact h2
/-- a new log -/
theorem inv_new {a : Nat} (h1 : 18 ≤ a) (h2 : a ≤ 1400) : ∃ C, Inv (newL (DevP.new a 0)) (newD (DevP.new a 0)) [] C := by
  have hsz : (DevP.new a 0).size 0 = a := by
    show (if 0 < 2 then (List.replicate _ _).length else 0) = a
    rw [if_pos (by omega), List.length_replicate]
    rfl
  have hq : Quiet (DevP.new a 0) (List.replicate a zsec) := ⟨by show List.replicate a _ = _; rw [List.map_replicate]; rfl, rfl, rfl⟩
  have hm := makeP_quiet hq (p := 0) (n := a) (want := []) (fun l hl => by cases hl) (by rw [List.length_replicate]; omega)
  have hat := updN_at (List.replicate a zsec) 0 [] a
  have hlen := updN_length (List.replicate a zsec) 0 [] a
  rw [List.length_replicate] at hlen hat
  have hz : ∀ i, i < a → (updN (List.replicate a zsec) 0 [] a)[i]? = some zsec := fun i hi => by
    rw [hat i (by omega), if_pos (by omega)]
    rfl
  unfold newL newD
  rw [hsz]
  obtain ⟨s, hs⟩ : ∃ s, (a - 2) / 2 = s := ⟨_, rfl⟩
  rw [hs]
  have hq2 := sayD_quiet (L := logN s) hm (by omega)
  have hfits : HeadP.Fits (sayL (logN s)).h := ⟨by show (0 + 1) % 18446744073709551616 < _; decide, by show (1 : Nat) < _; decide, by show (0 : Nat) < _; decide, by show (0 : Nat) < _; decide⟩
  have hmay : (sayL (logN s)).h.may := ⟨hfits, by show (0 : Nat) < 2; decide, Nat.le_refl _, by show (1 : Nat) ≤ _; decide⟩
  refine ⟨_, hq2, ⟨by show s ≤ 700; omega, hfits, hmay.area, by show 1 - 1 ≤ 1; decide, Nat.zero_le _, Nat.le_refl _, by show 1 + 0 < _; decide, ⟨rfl, rfl, fun r hr => by cases hr⟩⟩, hmay, by show 0 < (0 + 1) % _; decide, ?_, ?_, ?_, ?_, ?_, ?_, ⟨0, Nat.le_refl _, rfl⟩⟩
  · show 2 + 2 * s ≤ _
    rw [List.length_set, hlen]
    omega
  · show s = _
    rw [List.length_set, hlen]
    exact hs.symm
  · rw [List.length_set, hlen]; exact h1
  · exact List.getElem?_set_self (by rw [hlen]; show 1 - 1 < a; omega)
  · intro b hb hh
    rw [List.getElem?_set_ne (by show 1 - 1 ≠ 1 - (1 - 1); decide)] at hb
    rw [show 1 - (sayL (logN s)).slot = 1 from rfl, hz 1 (by omega)] at hb
    injection hb with hb
    subst hb
    exact absurd hh (by decide)
  · intro i hi
    have hi' : i < s := hi
    show ((updN (List.replicate a zsec) 0 [] a).set _ _)[2 + 0 * s + i]? = some (wantAt (layOf (([] : List Nat).take 0)) i)
    rw [List.getElem?_set_ne (by show 1 - 1 ≠ _; omega), hz _ (by omega)]
    rfl
end
end Go.Proofs.Ytkganajbilnanaa
