/- The log, plain: a device of which nothing waits. Conditions: none; no program in sight. -/
import Derived.Test.YtkganajbilnanaaGreatYWZ
set_option linter.unusedVariables false
set_option linter.unusedSimpArgs false
namespace Go.Proofs.YtkganajbilnanaaGreat
open NumMath
structure Live (D : DevP) (V : List (List Nat)) : Prop where
  view : (D.f 0).map Sect.newest = V
  left : D.left = none
  run : D.halted = false
structure Quiet (D : DevP) (C : List (List Nat)) : Prop where
  f : D.f 0 = C.map fun c => ⟨c, []⟩
  left : D.left = none
  run : D.halted = false
section
variable {D : DevP} {C V : List (List Nat)}
theorem Quiet.live (h : Quiet D C) : Live D C := ⟨by rw [h.f, List.map_map]; exact (List.map_congr_left fun c _ => rfl).trans (List.map_id C), h.left, h.run⟩
theorem Live.length (h : Live D V) : (D.f 0).length = V.length := by rw [← h.view, List.length_map]
theorem Quiet.length (h : Quiet D C) : (D.f 0).length = C.length := h.live.length
theorem Live.goes (h : Live D V) : D.goes = (true, D) := by
  unfold DevP.goes
  rw [h.left]
theorem Live.read (h : Live D V) {k : Nat} (hk : k < V.length) : D.read 0 (k : Int) = (V[k], 0) := by
  have hl := h.length
  have hkl : k < (D.f 0).length := by omega
  rw [DevP.read_in hkl, DevP.sect_eq hkl]
  obtain ⟨s, hs⟩ : ∃ s, (D.f 0)[k] = s := ⟨_, rfl⟩
  rw [hs]
  have h1 : (D.f 0)[k]? = some s := by rw [List.getElem?_eq_getElem hkl, hs]
  have h2 : V[k]? = some s.newest := by rw [← h.view, List.getElem?_map, h1]; rfl
  rw [List.getElem?_eq_getElem hk] at h2
  rw [Option.some.inj h2]
theorem Live.write (h : Live D V) {k : Nat} (hk : k < V.length) {l : List Nat} (hl : l.length = 128) : Live (D.write 0 (k : Int) l).2 (V.set k l) := by
  have hln := h.length
  have hh : D.has 0 (k : Int) := ⟨by omega, by omega, by omega⟩
  have e : (D.write 0 (k : Int) l).2 = D.put 0 k ((D.sect 0 k).more l) := by
    unfold DevP.write
    rw [if_pos hh, if_pos hl, h.goes]
    rfl
  rw [e]
  refine ⟨?_, h.left, h.run⟩
  show (putD D.f 0 k ((D.sect 0 k).more l) 0).map Sect.newest = _
  unfold putD
  rw [if_pos rfl, List.map_set, h.view]
  congr 1
  unfold Sect.newest Sect.more
  simp
theorem Live.sync (h : Live D V) : Quiet (D.sync 0) V := by
  unfold DevP.sync
  rw [if_pos (by omega), h.goes]
  refine ⟨?_, h.left, h.run⟩
  show mapF D 0 (fun _ s => ⟨s.newest, []⟩) 0 = _
  unfold mapF
  rw [if_pos rfl, ← h.view, List.map_map]
  apply List.ext_getElem
  · simp
  · intro i h1 h2
    simp
theorem Quiet.crash (h : Quiet D C) (l : List FateP) : Quiet (D.crash l) C := by
  refine ⟨?_, rfl, rfl⟩
  show (D.f 0).mapIdx (fun k s => s.crash (fateFor l 0 k)) = _
  rw [h.f]
  apply List.ext_getElem
  · simp
  · intro i h1 h2
    simp only [List.getElem_mapIdx, List.getElem_map]
    unfold Sect.crash keepN
    simp [keptL]
end
def updN (C : List (List Nat)) (p : Nat) (want : List (List Nat)) : Nat → List (List Nat)
  | 0 => C
  | n + 1 => (updN C p want n).set (p + n) (wantAt want n)
theorem updN_length (C : List (List Nat)) (p : Nat) (want : List (List Nat)) : ∀ n, (updN C p want n).length = C.length
  | 0 => rfl
  | n + 1 => by
    show ((updN C p want n).set _ _).length = _
    rw [List.length_set, updN_length C p want n]
theorem updN_at (C : List (List Nat)) (p : Nat) (want : List (List Nat)) : ∀ (n i : Nat), p + n ≤ C.length → (updN C p want n)[i]? = if p ≤ i ∧ i < p + n then some (wantAt want (i - p)) else C[i]?
  | 0, i, h => by
    rw [if_neg (by omega)]
    rfl
  | n + 1, i, h => by
    show ((updN C p want n).set (p + n) (wantAt want n))[i]? = _
    rw [List.getElem?_set, updN_length, updN_at C p want n i (by omega)]
    by_cases e : p + n = i
    · rw [if_pos e, if_pos (by omega), if_pos (by omega)]
      congr 2
      omega
    · rw [if_neg e]
      by_cases q : p ≤ i ∧ i < p + n
      · rw [if_pos q, if_pos (by omega)]
      · rw [if_neg q, if_neg (by omega)]
theorem wantAt_len {want : List (List Nat)} (h : ∀ l ∈ want, l.length = 128) (i : Nat) : (wantAt want i).length = 128 := by
  unfold wantAt
  rcases hi : want[i]? with _ | l
  · exact List.length_replicate
  · exact h l (List.mem_of_getElem? hi)
theorem makeN_live {D : DevP} {C : List (List Nat)} (h : Quiet D C) {p : Nat} {want : List (List Nat)} (hw : ∀ l ∈ want, l.length = 128) : ∀ n, p + n ≤ C.length → Live (makeN D p want n).1 (updN C p want n) ∧ ((makeN D p want n).2 = false → (makeN D p want n).1 = D)
  | 0, _ => ⟨h.live, fun _ => rfl⟩
  | n + 1, hn => by
    obtain ⟨ih, ih2⟩ := makeN_live (p := p) h hw n (by omega)
    have hlen := updN_length C p want n
    have hr := ih.read (k := p + n) (by omega)
    show Live (if ((makeN D p want n).1.read 0 ((p + n : Nat) : Int)).1 = wantAt want n then makeN D p want n else (((makeN D p want n).1.write 0 ((p + n : Nat) : Int) (wantAt want n)).2, true)).1 ((updN C p want n).set (p + n) (wantAt want n)) ∧ _
    rw [hr]
    simp only
    split
    · rename_i e
      refine ⟨?_, ?_⟩
      · rw [← e, List.set_getElem_self]
        exact ih
      · intro q
        have e2 : makeN D p want (n + 1) = makeN D p want n := by
          show (if ((makeN D p want n).1.read 0 ((p + n : Nat) : Int)).1 = wantAt want n then makeN D p want n else (((makeN D p want n).1.write 0 ((p + n : Nat) : Int) (wantAt want n)).2, true)) = _
          rw [hr]
          simp only
          rw [if_pos e]
        rw [e2] at q ⊢
        exact ih2 q
    · rename_i e
      refine ⟨ih.write (by omega) (wantAt_len hw n), fun q => ?_⟩
      have e2 : makeN D p want (n + 1) = (((makeN D p want n).1.write 0 ((p + n : Nat) : Int) (wantAt want n)).2, true) := by
        show (if ((makeN D p want n).1.read 0 ((p + n : Nat) : Int)).1 = wantAt want n then makeN D p want n else (((makeN D p want n).1.write 0 ((p + n : Nat) : Int) (wantAt want n)).2, true)) = _
        rw [hr]
        simp only
        rw [if_neg e]
      rw [e2] at q
      cases q
theorem makeP_quiet {D : DevP} {C : List (List Nat)} (h : Quiet D C) {p n : Nat} {want : List (List Nat)} (hw : ∀ l ∈ want, l.length = 128) (hn : p + n ≤ C.length) : Quiet (makeP D p n want) (updN C p want n) := by
  obtain ⟨h1, h2⟩ := makeN_live h hw n hn
  unfold makeP
  cases hb : (makeN D p want n).2 with
  | true =>
    rw [if_pos rfl]
    exact h1.sync
  | false =>
    rw [if_neg (by simp)]
    have h3 := h2 hb
    rw [h3] at h1 ⊢
    have : updN C p want n = C := by
      have a := h1.view
      have b := h.live.view
      rw [← a, ← b]
    rw [this]
    exact h
theorem sayD_quiet {L : LogP} {D : DevP} {C : List (List Nat)} (h : Quiet D C) (hs : 2 ≤ C.length) : Quiet (sayD L D) (C.set (1 - L.slot) (hsec (sayL L).h)) :=
  (h.live.write (k := 1 - L.slot) (by omega) (hsec_length _)).sync
structure Inv (L : LogP) (D : DevP) (rs : List RecP) (C : List (List Nat)) : Prop where
  q : Quiet D C
  fit : L.fit rs
  may : L.h.may
  pos : 0 < L.h.stamp
  size : 2 + 2 * L.strips ≤ C.length
  strips : L.strips = (C.length - 2) / 2
  big : 18 ≤ C.length
  head : C[L.slot]? = some (hsec L.h)
  other : ∀ b, C[1 - L.slot]? = some b → isHead b = true → (wheadP b).stamp < L.h.stamp
  area : ∀ i, i < L.strips → C[firstP L L.h.area + i]? = some (wantAt (layOf (L.stream.take L.lasts)) i)
  mark : ∃ j, j ≤ rs.length ∧ L.lasts = offK rs j
theorem read_pad (m : Nat) : ∀ (n : Nat) (l : List Nat), l.length ≤ n → readL (layOf l ++ List.replicate m zsec) = l := by
  intro n
  induction n using Nat.strongRecOn with
  | ind n ih =>
    intro l hl
    by_cases h : l = []
    · subst h
      rw [layOf_nil, List.nil_append]
      exact read_zeros m
    · have hp := List.length_pos_iff.2 h
      rw [layOf_cons h, List.cons_append, read_sector (by rw [List.length_take]; omega)]
      split
      · rename_i hlt
        rw [List.length_take] at hlt
        rw [List.take_of_length_le (by omega)]
      · rename_i hge
        rw [List.length_take] at hge
        rw [ih (l.drop 127).length (by rw [List.length_drop]; omega) _ (Nat.le_refl _), List.take_append_drop]
section
variable {L : LogP} {D : DevP} {rs : List RecP} {C : List (List Nat)}
theorem Inv.first_in (h : Inv L D rs C) {a : Nat} (ha : a < 2) : 2 ≤ firstP L a ∧ firstP L a + L.strips ≤ C.length := by
  have := h.size
  unfold firstP
  rcases (show a = 0 ∨ a = 1 by omega) with rfl | rfl <;> omega
theorem Inv.append (h : Inv L D rs C) {r : RecP} (hf : r.Fits) (spare : Nat) : Inv (appP L r spare).2 D (if (appP L r spare).1.2 = 0 then rs ++ [r] else rs) C := by
  unfold appP
  cases hok : okR r with
  | false => simp; exact h
  | true =>
    simp only [Bool.true_eq_false, if_false]
    split
    · simp; exact h
    · rename_i hr
      simp only [if_true]
      have hl := h.fit.lasts
      have hhi := h.may.hi
      have hst := h.fit.strips
      have hlen : (L.stream ++ encL r).length ≤ L.strips * 127 := by rw [List.length_append]; omega
      refine ⟨h.q, ⟨hst, h.fit.fits, h.fit.area, h.fit.slot, hlen, by show L.lasts ≤ (L.stream ++ encL r).length; rw [List.length_append]; omega, by show L.h.base + (L.stream ++ encL r).length < _; omega, h.fit.recs.snoc hok hf⟩, h.may, h.pos, h.size, h.strips, h.big, h.head, h.other, fun i hi => ?_, ?_⟩
      · rw [show ({ L with starts := L.starts ++ [L.stream.length], stream := L.stream ++ encL r } : LogP).stream.take L.lasts = L.stream.take L.lasts from by
          show (L.stream ++ encL r).take L.lasts = _
          rw [List.take_append_of_le_length hl]]
        exact h.area i hi
      · obtain ⟨j, hj, e⟩ := h.mark
        refine ⟨j, by rw [List.length_append]; omega, ?_⟩
        show L.lasts = _
        rw [e]
        unfold offK
        rw [List.take_append_of_le_length hj]
theorem inv_new {a : Nat} (h1 : 18 ≤ a) (h2 : a ≤ 1400) : ∃ C, Inv (newL (DevP.new a 0)) (newD (DevP.new a 0)) [] C := by
  have hsz : (DevP.new a 0).size 0 = a := by
    show (if 0 < 2 then (List.replicate _ _).length else 0) = a
    rw [if_pos (by omega), List.length_replicate]
    rfl
  have hq : Quiet (DevP.new a 0) (List.replicate a zsec) := ⟨by show List.replicate a _ = _; rw [List.map_replicate]; rfl, rfl, rfl⟩
  have hm := makeP_quiet hq (p := 0) (n := a) (want := []) (fun l hl => by cases hl) (by rw [List.length_replicate]; omega)
  have hat := updN_at (List.replicate a zsec) 0 [] a
  have hlen := updN_length (List.replicate a zsec) 0 [] a
  rw [List.length_replicate] at hlen hat
  have hz : ∀ i, i < a → (updN (List.replicate a zsec) 0 [] a)[i]? = some zsec := fun i hi => by
    rw [hat i (by omega), if_pos (by omega)]
    rfl
  unfold newL newD
  rw [hsz]
  obtain ⟨s, hs⟩ : ∃ s, (a - 2) / 2 = s := ⟨_, rfl⟩
  rw [hs]
  have hq2 := sayD_quiet (L := logN s) hm (by omega)
  have hfits : HeadP.Fits (sayL (logN s)).h := ⟨by show (0 + 1) % 18446744073709551616 < _; decide, by show (1 : Nat) < _; decide, by show (0 : Nat) < _; decide, by show (0 : Nat) < _; decide⟩
  have hmay : (sayL (logN s)).h.may := ⟨hfits, by show (0 : Nat) < 2; decide, Nat.le_refl _, by show (1 : Nat) ≤ _; decide⟩
  refine ⟨_, hq2, ⟨by show s ≤ 700; omega, hfits, hmay.area, by show 1 - 1 ≤ 1; decide, Nat.zero_le _, Nat.le_refl _, by show 1 + 0 < _; decide, ⟨rfl, rfl, fun r hr => by cases hr⟩⟩, hmay, by show 0 < (0 + 1) % _; decide, ?_, ?_, ?_, ?_, ?_, ?_, ⟨0, Nat.le_refl _, rfl⟩⟩
  · show 2 + 2 * s ≤ _
    rw [List.length_set, hlen]
    omega
  · show s = _
    rw [List.length_set, hlen]
    exact hs.symm
  · rw [List.length_set, hlen]; exact h1
  · exact List.getElem?_set_self (by rw [hlen]; show 1 - 1 < a; omega)
  · intro b hb hh
    rw [List.getElem?_set_ne (by show 1 - 1 ≠ 1 - (1 - 1); decide)] at hb
    rw [show 1 - (sayL (logN s)).slot = 1 from rfl, hz 1 (by omega)] at hb
    injection hb with hb
    subst hb
    exact absurd hh (by decide)
  · intro i hi
    have hi' : i < s := hi
    show ((updN (List.replicate a zsec) 0 [] a).set _ _)[2 + 0 * s + i]? = some (wantAt (layOf (([] : List Nat).take 0)) i)
    rw [List.getElem?_set_ne (by show 1 - 1 ≠ _; omega), hz _ (by omega)]
    rfl
end
theorem goodR_take {rs : List RecP} (h : GoodR rs) (j : Nat) : GoodR (rs.take j) := fun r hr => h r (List.mem_of_mem_take hr)
section
variable {L : LogP} {D : DevP} {rs : List RecP} {C : List (List Nat)}
theorem findStep_yes {D : DevP} {k : Nat} {s : HeadP × Nat} {b : List Nat} {h : HeadP} (hr : (D.read 0 (k : Int)).1 = b) (hb : isHead b = true) (hw : wheadP b = h) (hlt : s.1.stamp < h.stamp) : findStep D k s = (h, k) := by
  unfold findStep
  simp only [hr, hb, hw, hlt, and_self, if_true]
theorem findStep_no {D : DevP} {k : Nat} {s : HeadP × Nat} {b : List Nat} (hr : (D.read 0 (k : Int)).1 = b) (hn : isHead b = true → ¬ s.1.stamp < (wheadP b).stamp) : findStep D k s = s := by
  unfold findStep
  simp only [hr]
  split
  · rename_i q
    exact absurd q.2 (hn q.1)
  · rfl
theorem Inv.find (h : Inv L D rs C) : findP D = (L.h, L.slot) := by
  have hb := h.big
  have hl := h.q.live
  have hsl := h.fit.slot
  have hih : isHead (hsec L.h) = true := isHead_hsec h.fit.fits (by have := h.pos; omega) h.may.lo h.may.hi h.may.area
  have hw := wheadP_hsec h.fit.fits
  have hpos := h.pos
  obtain ⟨b0, hb0⟩ : ∃ b0, C[0]? = some b0 := ⟨_, List.getElem?_eq_getElem (by omega)⟩
  obtain ⟨b1, hb1⟩ : ∃ b1, C[1]? = some b1 := ⟨_, List.getElem?_eq_getElem (by omega)⟩
  have r0 : (D.read 0 ((0 : Nat) : Int)).1 = b0 := by
    rw [hl.read (by omega)]
    rw [List.getElem?_eq_getElem (by omega)] at hb0
    exact Option.some.inj hb0
  have r1 : (D.read 0 ((1 : Nat) : Int)).1 = b1 := by
    rw [hl.read (by omega)]
    rw [List.getElem?_eq_getElem (by omega)] at hb1
    exact Option.some.inj hb1
  have hhead := h.head
  have hoth := h.other
  unfold findP
  generalize hsec L.h = hs at *
  rcases (show L.slot = 0 ∨ L.slot = 1 by omega) with e | e
  · rw [e] at hhead hoth ⊢
    rw [hb0] at hhead
    have h0 : b0 = hs := Option.some.inj hhead
    have s0 : findStep D 0 (⟨0, 0, 0, 0⟩, 0) = (L.h, 0) := findStep_yes r0 (by rw [h0]; exact hih) (by rw [h0]; exact hw) hpos
    rw [s0]
    exact findStep_no r1 fun q z => by
      have := hoth b1 hb1 q
      have z' : L.h.stamp < (wheadP b1).stamp := z
      omega
  · rw [e] at hhead hoth ⊢
    rw [hb1] at hhead
    have h1 : b1 = hs := Option.some.inj hhead
    cases hq : isHead b0 with
    | true =>
      by_cases hlt : (0 : Nat) < (wheadP b0).stamp
      · have s0 : findStep D 0 (⟨0, 0, 0, 0⟩, 0) = (wheadP b0, 0) := findStep_yes r0 hq rfl hlt
        rw [s0]
        exact findStep_yes r1 (by rw [h1]; exact hih) (by rw [h1]; exact hw) (hoth b0 hb0 hq)
      · have s0 : findStep D 0 (⟨0, 0, 0, 0⟩, 0) = (⟨0, 0, 0, 0⟩, 0) := findStep_no r0 fun _ => hlt
        rw [s0]
        exact findStep_yes r1 (by rw [h1]; exact hih) (by rw [h1]; exact hw) hpos
    | false =>
      have s0 : findStep D 0 (⟨0, 0, 0, 0⟩, 0) = (⟨0, 0, 0, 0⟩, 0) := findStep_no r0 fun q => by rw [hq] at q; cases q
      rw [s0]
      exact findStep_yes r1 (by rw [h1]; exact hih) (by rw [h1]; exact hw) hpos
theorem Inv.area_is (h : Inv L D rs C) : areaP D (firstP L L.h.area) L.strips = layOf (L.stream.take L.lasts) ++ List.replicate (L.strips - chunks (L.stream.take L.lasts)) zsec := by
  obtain ⟨hp2, hpl⟩ := h.first_in h.fit.area
  have hlen := h.fit.len
  have hla := h.fit.lasts
  have hc : chunks (L.stream.take L.lasts) ≤ L.strips := by
    unfold chunks
    rw [List.length_take]
    omega
  apply List.ext_getElem
  · rw [area_length, List.length_append, layOf_length', List.length_replicate]
    omega
  · intro i h1 h2
    rw [area_length] at h1
    have e : (areaP D (firstP L L.h.area) L.strips)[i]? = some (wantAt (layOf (L.stream.take L.lasts)) i) := by
      unfold areaP
      rw [List.getElem?_map, List.getElem?_range h1, Option.map_some, h.q.live.read (by omega), ← h.area i h1, List.getElem?_eq_getElem]
    rw [List.getElem?_eq_getElem (by rw [area_length]; exact h1)] at e
    rw [Option.some.inj e]
    unfold wantAt
    rcases Nat.lt_or_ge i (chunks (L.stream.take L.lasts)) with z | z
    · rw [List.getElem_append_left (by rw [layOf_length']; exact z), List.getElem?_eq_getElem (by rw [layOf_length']; exact z)]
      rfl
    · rw [List.getElem_append_right (by rw [layOf_length']; exact z), List.getElem_replicate, List.getElem?_eq_none (by rw [layOf_length']; exact z)]
      rfl
theorem Inv.opened (h : Inv L D rs C) : opens D = true ∧ ∃ j, j ≤ rs.length ∧ L.lasts = offK rs j ∧ openR D = rs.take j ∧ openL D = ⟨L.h, L.strips, L.slot, (rs.take j).flatMap encL, offs 0 (rs.take j), ((rs.take j).flatMap encL).length⟩ := by
  obtain ⟨j, hj, hm⟩ := h.mark
  have hf := h.find
  have hsz : D.size 0 = C.length := by
    show (if 0 < 2 then (D.f 0).length else 0) = _
    rw [if_pos (by omega)]
    exact h.q.length
  have hs : (D.size 0 - 2) / 2 = L.strips := by rw [hsz]; exact h.strips.symm
  have hR : openR D = rs.take j := by
    unfold openR
    rw [hf, hs]
    show recsOf (readL (areaP D (firstP L L.h.area) L.strips)) = _
    rw [h.area_is, read_pad _ _ _ (Nat.le_refl _), hm, h.fit.recs.stream, take_off]
    have := recsOf_enc (goodR_take h.fit.recs.good j) []
    rw [List.append_nil] at this
    rw [this]
    show rs.take j ++ recsOf [] = _
    rw [show recsOf [] = [] from rfl, List.append_nil]
  refine ⟨?_, j, hj, hm, hR, ?_⟩
  · unfold opens
    rw [hf, decide_eq_true (by rw [hsz]; exact h.big), decide_eq_true h.pos]
    rfl
  · unfold openL
    rw [hR, hf, hs]
theorem Inv.crash (h : Inv L D rs C) (l : List FateP) : Inv L (D.crash l) rs C :=
  ⟨h.q.crash l, h.fit, h.may, h.pos, h.size, h.strips, h.big, h.head, h.other, h.area, h.mark⟩
end
end Go.Proofs.YtkganajbilnanaaGreat
namespace Go.Proofs.YtkganajbilnanaaGreat
open Go.ChangeShapes Go.WideShapes Go.ChangeAt Go.RowKit
open NumMath
set_option maxRecDepth 20000
def recB8 : RecP := ⟨1, 1, 0, 0, ⟨0, 0, false, false, [], []⟩, [], []⟩
theorem fits_recB : recB8.Fits := ⟨by decide, by decide, by decide, by decide, ⟨by decide, by decide, (fun x hx => by cases hx), (fun x hx => by cases hx)⟩, (fun x hx => by cases hx), (fun x hx => by cases hx)⟩
theorem recB8_at (w : World) : RecAt w w.heap.size recB8 memZ := ⟨⟨Bytes.nil _ _ _, Bytes.nil _ _ _, Nat.le_refl _, Nat.le_refl _, fits_recB.chg⟩, (fun j hj => absurd hj (by simp [recB8])), (fun j hj => absurd hj (by simp [recB8])), fits_recB⟩
def D18 : DevP := DevP.new 18 0
theorem newL_18 : newL D18 = ⟨⟨1, 1, 0, 0⟩, 8, 0, [], [], 0⟩ := rfl
theorem encB_len : (encL recB8).length = 27 := by decide
theorem app_18 : appP (newL D18) recB8 0 = ((1, 0), ⟨⟨1, 1, 0, 0⟩, 8, 0, encL recB8, [0], 0⟩) := by
  rw [newL_18]
  unfold appP
  rw [if_neg (by decide), if_neg (by rw [encB_len]; decide)]
  rfl
theorem open_18 : ∃ C, Inv ⟨⟨1, 1, 0, 0⟩, 8, 0, encL recB8, [0], 0⟩ (newD D18) [recB8] C := by
  obtain ⟨C, h⟩ := inv_new (a := 18) (by omega) (by omega)
  have := h.append fits_recB 0
  rw [show newL (DevP.new 18 0) = newL D18 from rfl, app_18] at this
  simp only [if_true] at this
  exact ⟨C, this⟩
theorem open_18L (l : List FateP) : opens ((newD D18).crash l) = true ∧ (openL ((newD D18).crash l)).h.base = 1 ∧ (openL ((newD D18).crash l)).stream = [] := by
  obtain ⟨C, h⟩ := open_18
  obtain ⟨h1, j, hj, hm, hR, hL⟩ := (h.crash l).opened
  have hj0 : j = 0 := by
    rcases Nat.eq_zero_or_pos j with z | z
    · exact z
    · exfalso
      have h1 : j = 1 := by have : j ≤ 1 := hj; omega
      subst h1
      have e : offK [recB8] 1 = 27 := by decide
      rw [e] at hm
      cases hm
  subst hj0
  refine ⟨h1, by rw [hL], by rw [hL]; rfl⟩
theorem size_18 (l : List FateP) : ((newD D18).crash l).size 0 ≤ 1400 := by
  obtain ⟨C, h⟩ := open_18
  have h1 := (h.crash l).q.length
  have h2 : 8 = (C.length - 2) / 2 := h.strips
  show (if 0 < 2 then (((newD D18).crash l).f 0).length else 0) ≤ _
  rw [if_pos (by omega), h1]
  omega
theorem good_new18 : (DevP.new 18 0).good 0 := DevP.good_new (by omega) (by omega)
theorem good_newD18 : (newD D18).good 19 := by
  unfold newD
  exact sayD_good (N := 18) (makeP_good good_new18 0 18 [])
set_option maxHeartbeats 8000000 in
theorem kn_any (w : World) : Calls Tryz.prog 5 #[] w fun e w' => e = .returned (.bool true) ∧ Below w.heap.size w w' := by
  have cnew : Calls Tryz.prog 14 #[.int .i64 18, .int .i64 0] w (NewPost 18 0 w) := new_any 18 0 w
  go_enter Tryz.func5, Tryz.ntmps5
  go_wp2_with fail
  refine cnew.mono ?_
  rintro e w1 ⟨h1, -, hb1⟩
  obtain ⟨pd, rfl, hd1⟩ := h1 ⟨⟨by omega, by omega⟩, by omega, by omega⟩
  clear h1 cnew
  obtain ⟨gp, s0, lv0, X0, rfl, -⟩ := id hd1
  have cnl := newl_any (D := D18) hd1 (fun b q => q.2) good_new18 (by omega)
  go_wp2_with fail
  refine cnl.mono ?_
  rintro e w2 (⟨hlt, -⟩ | ⟨hge, gl, rfl, F2, G2, sv2, st2, hL2, hF2, hG2, hO2⟩)
  · exact absurd hlt (by decide)
  have hb2 : Below w.heap.size w w2 := hb1.trans (hO2.below hb1.size fun b q => (q.elim (fun z => z.1) fun z => z.elim))
  have hlo : ∀ b, F2 b ∨ G2 b → w.heap.size ≤ b := fun b q => by
    have := hb1.size
    rcases q with q | q
    · rcases hF2 b q with z | z
      · exact z.1
      · omega
    · rcases hG2 b q with z | z
      · exact z.elim
      · omega
  have cap : Calls Tryz.prog 16 #[.pointer (some ⟨gl, 0, none⟩), .agg #[.int .u8 1, .int .u32 1, .int .u64 0, .int .u64 0, .int .u32 0, .int .u16 0, .bool false, .bool false, .slice none 0 0, .slice none 0 0, .slice none 0 0, .slice none 0 0], .int .u64 0] w2 fun e w' => e = .returned (.tuple #[.int .u64 1, .int .u16 0]) ∧ LgPost ⟨⟨1, 1, 0, 0⟩, 8, 0, encL recB8, [0], 0⟩ (newD D18) F2 G2 gl (.pointer (some ⟨gp, 0, none⟩)) w2 w' := by
    have := append_any hL2 recB8 memZ w2.heap.size (recB8_at w2) (Nat.le_refl _) (by rw [newL_18]; decide) (by rw [newL_18]; decide) (by rw [newL_18]; decide) (by rw [newL_18]; decide) 0 (by decide)
    rw [app_18] at this
    exact this
  clear cnl hL2 hF2 hG2 hO2 hd1 hb1 hge
  go_wp2_with fail
  refine cap.mono ?_
  rintro e w3 ⟨rfl, F3, G3, sv3, st3, hL3, hF3, hG3, hO3⟩
  have hs2 := hb2.size
  have hb3 : Below w.heap.size w w3 := hb2.trans (hO3.below hs2 hlo)
  have hlo3 : ∀ b, F3 b ∨ G3 b → w.heap.size ≤ b := fun b q => by
    rcases q with q | q
    · rcases hF3 b q with z | z
      · exact hlo b (.inl z)
      · omega
    · rcases hG3 b q with z | z
      · exact hlo b (.inr z)
      · omega
  obtain ⟨A3, c3, rfl, hc3, hb33⟩ := hL3.log.bytes
  have cend := end_any hL3.log.blk (by show 1 + (encL recB8).length < _; rw [encB_len]; decide)
  have HL3 := Lib.hid hL3
  have HB3 := Lib.hid hb3
  have HLO3 := Lib.hid hlo3
  simp only [encB_len] at cend
  clear cap hb2 hlo hF3 hG3 hO3 hL3 hb3 hlo3 hs2 hc3 hb33
  go_wp2_with fail
  refine cend.mono ?_
  rintro e w4 ⟨rfl, hd4⟩
  have hB4 := hd4.below w3.heap.size
  have hL4 := HL3.out.below hB4
  have crm := Room_any hL4.log.blk (by decide) (by show (encL recB8).length ≤ _; rw [encB_len]; decide)
  simp only [encB_len] at crm
  clear cend hd4
  go_wp2_with fail
  refine crm.mono ?_
  rintro e w5 ⟨rfl, hd5⟩
  have hB5 := hd5.below w4.heap.size
  have hL5 := hL4.below hB5
  have hb5 : Below w.heap.size w w5 := (HB3.out.trans (hB4.mono HB3.out.size)).trans (hB5.mono (Nat.le_trans HB3.out.size hB4.size))
  have ccr : Calls Tryz.prog 19 #[.pointer (some ⟨gp, 0, none⟩), .slice none 0 0] w5 fun e w' => e = .returned (.tuple #[]) ∧ DevPost ((newD D18).crash []) F3 (.pointer (some ⟨gp, 0, none⟩)) w5 w' := crash_any hL5.dev hL5.hiF good_newD18 (by omega) none 0 [] ⟨At.nil _ _ _, fun x hx => by cases hx⟩ (fun b o e => by cases e) (by simp)
  clear crm hd5 hL4
  have HL5 := Lib.hid hL5
  have HB5 := Lib.hid hb5
  clear hL5 hb5 hB4 hB5
  go_wp2_with fail
  refine ccr.mono ?_
  rintro e w6 ⟨rfl, hp6⟩
  have hF6 : ∀ b, grow F3 w5 w6 b → b < w6.heap.size := fun b q => q.elim (fun z => Nat.lt_of_lt_of_le (HL5.out.hiF b z) hp6.2.size) fun z => z.2
  have hlo6 : ∀ b, grow F3 w5 w6 b → w.heap.size ≤ b := fun b q => q.elim (fun z => HLO3.out b (.inl z)) fun z => by have := HB5.out.size; omega
  have hb6 : Below w.heap.size w w6 := HB5.out.trans (hp6.2.below HB5.out.size fun b q => HLO3.out b (.inl q))
  have cop := open_any hp6.1 hF6 (good_newD18.crash []) (by omega) (size_18 [])
  obtain ⟨hop, hbs, hst⟩ := open_18L []
  have HB6 := Lib.hid hb6
  generalize (newD D18).crash [] = D6 at *
  clear ccr hp6 hF6 HL5 hb6
  go_wp2_with fail
  refine cop.mono ?_
  rintro e w7 (⟨hno, -⟩ | ⟨-, -, gm, rfl, F7, G7, sv7, st7, hL7, -, -, hO7⟩)
  · rw [hno] at hop
    cases hop
  have hb7 : Below w.heap.size w w7 := HB6.out.trans (hO7.below HB6.out.size fun b q => q.elim (hlo6 b) fun z => z.elim)
  generalize openL D6 = L7 at *
  obtain ⟨⟨st7a, bs7, ck7, ar7⟩, sp7, sl7, sm7, ss7, ls7⟩ := L7
  simp only at hbs hst
  subst hbs
  subst hst
  obtain ⟨A7, c7, rfl, -, -⟩ := hL7.log.bytes
  have cen : Calls Tryz.prog 17 #[.pointer (some ⟨gm, 0, none⟩)] w7 fun e w' => e = .returned (.int .u64 1) ∧ Drew w7 w' := end_any hL7.log.blk (by show 1 + 0 < _; decide)
  have HL7 := Lib.hid hL7
  have HB7 := Lib.hid hb7
  clear cop hL7 hO7 hb7 hlo6
  go_wp2_with fail
  refine cen.mono ?_
  rintro e w8 ⟨rfl, hd8⟩
  have hB8 := hd8.below w7.heap.size
  have cba : Calls Tryz.prog 20 #[.pointer (some ⟨gm, 0, none⟩)] w8 fun e w' => e = .returned (.int .u64 1) ∧ w8 = w' := base_any (HL7.out.below hB8).log.blk
  have HB8 : Hid (Below w.heap.size w w8) := Lib.hid (HB7.out.trans (hB8.mono HB7.out.size))
  clear cen hd8 hB8
  go_wp2_with fail
  refine cba.mono ?_
  rintro e w9 ⟨rfl, rfl⟩
  clear cba
  go_wp2
  go_ret
  exact ⟨rfl, HB8.out⟩
end Go.Proofs.YtkganajbilnanaaGreat
