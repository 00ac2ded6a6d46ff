/- page: the document's together is compact; its Set is Set; its bytes are the page's. Conditions: none; no program in sight. -/
import Derived.Test.YtkknfccfgmflmaaPgRefP
namespace Go.Proofs.Ytkknfccfgmflmaa
open Go.ChangeShapes Go.WideShapes Go.ChangeAt Go.RowKit
open NumMath
set_option linter.unusedVariables false
set_option linter.unusedSimpArgs false

section
variable {f g : Nat → Nat}
/-- the data of the first k slots laid -/
def layT (f : Nat → Nat) (k : Nat) : Nat × (Nat → Nat) := layL ((slotsTo f k).map fun s => (s, dat0 f s)) (zapL f (slotsF f) f)
theorem layT_next (f : Nat → Nat) (k : Nat) : layT f (k + 1) = if 0 < lenN f k then layS (layT f k) (k, dat0 f k) else layT f k := by
  unfold layT
  rw [slotsTo_next, List.map_append]
  by_cases h : 0 < lenN f k
  · rw [if_pos h, if_pos h, List.map_cons, List.map_nil, layL_snoc]
  · rw [if_neg h, if_neg h, List.map_nil, List.append_nil]
theorem usedTo_mono (f : Nat → Nat) {k m : Nat} (h : k ≤ m) : usedTo f k ≤ usedTo f m := by
  induction m with
  | zero => rw [show k = 0 by omega]; exact Nat.le_refl _
  | succ m ih =>
    rcases Nat.lt_or_ge k (m + 1) with q | q
    · have := ih (by omega)
      show _ ≤ usedTo f m + lenN f m
      omega
    · rw [show k = m + 1 by omega]
      exact Nat.le_refl _
structure TogR (f : Nat → Nat) (k : Nat) : Prop where
  at_ : (layT f k).1 = (togK (toR f) k).1
  sum : (layT f k).1 + usedTo f k = 448
  ent : ∀ t, t < k → 0 < lenN f t → atN (layT f k).2 t = (togK (toR f) k).2.1 t
  rest : ∀ t, k ≤ t → (togK (toR f) k).2.1 t = oldA f t
  none : ∀ t, oldN f t = 0 → (togK (toR f) k).2.1 t = oldA f t
  byt : ∀ i, 16 + 4 * cnt f ≤ i → i < 448 → (layT f k).2 i = (togK (toR f) k).2.2 i
  zer : ∀ i, i < 16 + 4 * cnt f ∨ 448 ≤ i → (togK (toR f) k).2.2 i = 0
theorem tog_ok (h : Sound f) (hu : 16 + 4 * cnt f + usedF f ≤ 448) : ∀ k, k ≤ cnt f → TogR f k := by
  intro k
  induction k with
  | zero =>
    intro _
    refine ⟨rfl, rfl, fun t ht => absurd ht (by omega), fun t ht => rfl, fun t ht => rfl, fun i h1 h2 => ?_, fun i hi => rfl⟩
    show zapL f (slotsF f) f i = 0
    by_cases hin : isIn f i
    · obtain ⟨s, a1, a2, a3, a4⟩ := hin
      exact zapL_in f _ f (slotsTo_iff.2 ⟨a1, a2⟩) a3 a4
    · have hz := zapL_out f (slotsF f) f (i := i) fun s hs hi => hin ⟨s, (slotsTo_mem hs).1, (slotsTo_mem hs).2, hi⟩
      rw [hz]
      exact h.zero i h1 h2 hin
  | succ k ih =>
    intro hk
    have hk' : k < cnt f := by omega
    have I := ih (by omega)
    have hum := usedTo_mono f hk
    rw [show usedTo f (cnt f) = usedF f from rfl] at hum
    have hun : usedTo f (k + 1) = usedTo f k + lenN f k := rfl
    have hon := oldN_in (f := f) hk'
    have hc40 := h.ok.c40
    by_cases hz : 0 < lenN f k
    · have hlt : layT f (k + 1) = layS (layT f k) (k, dat0 f k) := by rw [layT_next, if_pos hz]
      have hdl : (dat0 f k).length = lenN f k := cut_length _ _ _
      have hcut : cut (toR f).B (oldA f k) (oldN f k) = dat0 f k := by
        rw [toR_dat h]
        unfold dat dat0
        rw [hon, show oldA f k = atN f k from if_pos hk']
      have hT : togK (toR f) (k + 1) = ((togK (toR f) k).1 - lenN f k, up1 (togK (toR f) k).2.1 k ((togK (toR f) k).1 - lenN f k), upd (togK (toR f) k).2.2 ((togK (toR f) k).1 - lenN f k) (dat0 f k)) := by
        show (if 0 < oldN f k then ((togK (toR f) k).1 - oldN f k, up1 (togK (toR f) k).2.1 k ((togK (toR f) k).1 - oldN f k), upd (togK (toR f) k).2.2 ((togK (toR f) k).1 - oldN f k) (cut (toR f).B (oldA f k) (oldN f k))) else togK (toR f) k) = _
        rw [if_pos (by omega), hcut, hon]
      have h1 := I.at_
      have h2 := I.sum
      obtain ⟨a, ha⟩ : ∃ a, (togK (toR f) k).1 - lenN f k = a := ⟨_, rfl⟩
      have hL : layS (layT f k) (k, dat0 f k) = (a, lst (upd (layT f k).2 a (dat0 f k)) k a (dat0 f k).length) := by
        show ((layT f k).1 - (dat0 f k).length, lst (upd (layT f k).2 ((layT f k).1 - (dat0 f k).length) (dat0 f k)) k ((layT f k).1 - (dat0 f k).length) (dat0 f k).length) = _
        rw [hdl, h1, ha]
      rw [ha] at hT
      have hlo : 16 + 4 * cnt f ≤ a := by omega
      have hhi : a + lenN f k ≤ 448 := by omega
      rw [hL] at hlt
      refine ⟨?_, ?_, fun t ht hlt' => ?_, fun t ht => ?_, fun t ht => ?_, fun i b1 b2 => ?_, fun i hi => ?_⟩
      · rw [hlt, hT]
      · rw [hlt]
        show a + _ = 448
        omega
      · rw [hlt, hT]
        show atN (lst (upd (layT f k).2 a (dat0 f k)) k a (dat0 f k).length) t = up1 (togK (toR f) k).2.1 k a t
        unfold up1
        by_cases e : t = k
        · subst e
          rw [if_pos rfl]
          exact (lst_at _ t a _ (by omega) (by rw [hdl]; omega)).1
        · rw [if_neg e, (lst_other _ k a _ e).1, ← I.ent t (by omega) hlt']
          exact rd_congr fun i q1 q2 => upd_out _ _ _ (by omega)
      · rw [hT]
        show up1 _ k a t = _
        unfold up1
        rw [if_neg (by omega)]
        exact I.rest t (by omega)
      · rw [hT]
        show up1 _ k a t = _
        unfold up1
        rw [if_neg (fun e => by subst e; omega)]
        exact I.none t ht
      · rw [hlt, hT]
        show lst (upd (layT f k).2 a (dat0 f k)) k a (dat0 f k).length i = upd (togK (toR f) k).2.2 a (dat0 f k) i
        rw [lst_out _ _ _ _ (by omega)]
        unfold upd
        by_cases q : a ≤ i ∧ i < a + (dat0 f k).length
        · rw [if_pos q, if_pos q]
        · rw [if_neg q, if_neg q]
          exact I.byt i b1 b2
      · rw [hT]
        show upd (togK (toR f) k).2.2 a (dat0 f k) i = 0
        rw [upd_out _ _ _ (by rw [hdl]; omega)]
        exact I.zer i hi
    · have hlt : layT f (k + 1) = layT f k := by rw [layT_next, if_neg hz]
      have hT : togK (toR f) (k + 1) = togK (toR f) k := by
        show (if 0 < oldN f k then _ else togK (toR f) k) = _
        rw [if_neg (by omega)]
      have h2 := I.sum
      refine ⟨by rw [hlt, hT]; exact I.at_, by rw [hlt]; omega, fun t ht hlt' => ?_, fun t ht => by rw [hT]; exact I.rest t (by omega), fun t ht => by rw [hT]; exact I.none t ht, fun i b1 b2 => by rw [hlt, hT]; exact I.byt i b1 b2, fun i hi => by rw [hT]; exact I.zer i hi⟩
      rw [hlt, hT]
      by_cases e : t = k
      · subst e; exact absurd hlt' hz
      · exact I.ent t (by omega) hlt'
theorem togK_more {r : RP} {k : Nat} (j : Nat) (h : ∀ t, k ≤ t → r.S t = 0) : togK r (k + j) = togK r k := by
  induction j with
  | zero => rfl
  | succ j ih =>
    show (if 0 < r.S (k + j) then _ else togK r (k + j)) = _
    rw [if_neg (by have := h (k + j) (by omega); omega), ih]
theorem toR_comp (h : Sound f) (hu : 16 + 4 * cnt f + usedF f ≤ 448) : toR (compF f) = togR (toR f) := by
  obtain ⟨hS, hd, hh, hc0, -⟩ := comp_sound h.toPre hu
  obtain ⟨-, m2, -⟩ := laid_pre h.toPre hu
  have T := tog_ok h hu (cnt f) (Nat.le_refl _)
  have h40 := h.ok.c40
  have e40 : togK (toR f) 40 = togK (toR f) (cnt f) := by
    have := togK_more (r := toR f) (k := cnt f) (40 - cnt f) fun t ht => oldN_out ht
    rw [show cnt f + (40 - cnt f) = 40 by omega] at this
    exact this
  have hlay : laidF f = (layT f (cnt f)).2 := by
    unfold laidF layT
    rw [pairs_eq h.toPre]
    rfl
  have hN : ∀ t, oldN (compF f) t = oldN f t := fun t => by rw [← dat_length, hd, dat_length]
  have hc : cnt (compF f) = cnt f := by rw [cnt_top hS, show oldN (compF f) = oldN f from funext hN, ← cnt_top h]
  have hv : ∀ i, 16 ≤ i → compF f i = (layT f (cnt f)).2 i := fun i hi => by
    show settleF (laidF f) i = _
    rw [settle_out _ (by omega), hlay]
  have hat : ∀ t, atN (compF f) t = atN (layT f (cnt f)).2 t := fun t => rd_congr fun i a b => hv i (by omega)
  unfold togR
  rw [e40]
  refine RP.ext2 (toR_head hh).1 (toR_head hh).2 (fun t => ?_) hN (fun i => ?_)
  · show oldA (compF f) t = (togK (toR f) (cnt f)).2.1 t
    by_cases hz : oldN f t = 0
    · rw [T.none t hz, oldZ h.ok hz, oldZ hS.ok ((hN t).trans hz)]
    · have hlt := old_in (f := f) (t := t) (by omega)
      have hn := oldN_in hlt
      rw [show oldA (compF f) t = atN (compF f) t from if_pos (by omega), hat]
      exact T.ent t hlt (by omega)
  · show (if 16 + 4 * cnt (compF f) ≤ i ∧ i < 448 then compF f i else 0) = (togK (toR f) (cnt f)).2.2 i
    rw [hc]
    by_cases hi : 16 + 4 * cnt f ≤ i ∧ i < 448
    · rw [if_pos hi, hv i (by omega)]
      exact T.byt i hi.1 hi.2
    · rw [if_neg hi]
      exact (T.zer i (by omega)).symm
theorem clearR_to (h : Sound f) (s : Int) : clearR (toR f) s = toR (clearP f s).2 ∧ (decide (0 < (getR (toR f) s).length) = (clearP f s).1) := by
  unfold clearR clearP
  rw [toR_get h]
  by_cases h0 : 0 ≤ s
  · obtain ⟨k, rfl⟩ := Int.eq_ofNat_of_zero_le h0
    rw [if_pos h0, getP_nat, dat_length, Int.toNat_natCast]
    refine ⟨?_, rfl⟩
    by_cases hn : 0 < oldN f k
    · rw [if_pos ⟨h0, by have := old_in hn; have := h.ok.c40; omega, hn⟩]
      exact (toR_clear h hn).symm
    · rw [if_neg (fun q => hn q.2.2)]
      show toR f = toR (clrF f k)
      unfold clrF
      rw [if_neg hn]
  · rw [if_neg h0, if_neg (fun q => h0 q.1)]
    refine ⟨rfl, ?_⟩
    unfold getP
    rw [if_neg h0]
    rfl
theorem clearR_nat (h : Sound f) (s : Nat) : clearR (toR f) s = toR (clrF f s) := (clearR_to h s).1.trans (by unfold clearP; rw [if_pos (by omega), Int.toNat_natCast])
theorem setRR_to (h : Sound f) {s : Nat} (hs : s < 40) {d : List Nat} (hd1 : 1 ≤ d.length) (hd2 : d.length ≤ 64) (hd : Small d) (hfit : 16 + 4 * needC f s + (usedF f - oldN f s) + d.length ≤ 448) :
    setRR (toR f) s d = toR (setR f s d) ∧ (oldN f s ≠ d.length → RFit (clearR (toR f) s) ∧ RFit (midR (toR f) s (needC f s) d) ∧ 16 + 4 * needC f s + d.length ≤ lowS (midR (toR f) s (needC f s) d) 40 ∧ 16 + 4 * needC f s + totN (clearR (toR f) s).S 40 + d.length ≤ 448) := by
  obtain ⟨h1, h2⟩ := clr_sound h s
  obtain ⟨hu1, hu2⟩ := used_clr h hs
  have hcl := clr_cnt h s
  have hn : cnt f ≤ needC f s ∧ s + 1 ≤ needC f s := by unfold needC; omega
  have hcf : 16 + 4 * cnt (clrF f s) + usedF (clrF f s) ≤ 448 := by omega
  obtain ⟨k1, k2, k3, k4, k5⟩ := comp_sound h1.toPre hcf
  have hcmp : Sound (cmpF f s d) ∧ (∀ t, dat (cmpF f s d) t = if t = s then [] else dat f t) ∧ cnt (cmpF f s d) ≤ needC f s ∧ 16 + 4 * needC f s + d.length ≤ lowN (cmpF f s d) := by
    unfold cmpF
    by_cases ht : tight f s d
    · rw [if_pos ht]
      exact ⟨k1, fun t => (k2 t).trans (h2 t), by omega, by omega⟩
    · rw [if_neg ht]
      have ht' : ¬ lowN (clrF f s) < 16 + 4 * needC f s + d.length := ht
      exact ⟨h1, h2, by omega, by omega⟩
  obtain ⟨c1, c2, c4, c5⟩ := hcmp
  have he : oldN (cmpF f s d) s = 0 := by
    rw [← dat_length, c2, if_pos rfl]
    rfl
  have hmid : midR (toR f) s (needC f s) d = toR (cmpF f s d) := by
    unfold midR cmpF
    rw [clearR_nat h, toR_low h1]
    by_cases ht : tight f s d
    · have ht' : lowN (clrF f s) < 16 + 4 * needC f s + d.length := ht
      rw [if_pos ht', if_pos ht]
      exact (toR_comp h1 hcf).symm
    · have ht' : ¬ lowN (clrF f s) < 16 + 4 * needC f s + d.length := ht
      rw [if_neg ht', if_neg ht]
  have hneed : max (topN (toR f).S 40) (s + 1) = needC f s := by rw [toR_top h]; rfl
  constructor
  · unfold setRR setR
    rw [hneed]
    by_cases e : oldN f s = d.length
    · rw [if_pos e, if_pos (show (toR f).S s = d.length from e)]
      exact (toR_over h e hd1).symm
    · rw [if_neg e, if_neg (show ¬ (toR f).S s = d.length from e), hmid]
      exact (toR_put c1 hs he hd1 hd2 hd (by omega)).symm
  · intro e
    refine ⟨?_, ?_, ?_, ?_⟩
    · rw [clearR_nat h]; exact toR_fit h1
    · rw [hmid]; exact toR_fit c1
    · rw [hmid, toR_low c1]; exact c5
    · rw [clearR_nat h]
      show _ + totN (oldN (clrF f s)) 40 + _ ≤ _
      rw [← used_tot h1.ok.c40]
      omega
theorem setRP_to (h : Sound f) (s : Int) {d : List Nat} (hd : Small d) : setRP (toR f) s d = ((setP f s d).1, toR (setP f s d).2) := by
  unfold setRP setP
  by_cases h1 : 0 ≤ s ∧ s < 40 ∧ 1 ≤ d.length ∧ d.length ≤ 64
  · rw [if_pos h1, if_pos h1]
    obtain ⟨a1, a2, a3, a4⟩ := h1
    obtain ⟨k, rfl⟩ := Int.eq_ofNat_of_zero_le a1
    rw [Int.toNat_natCast, allS_to h (by omega), show max (topN (toR f).S 40) (k + 1) = needC f k by rw [toR_top h]; rfl]
    by_cases h2 : 448 < 16 + 4 * needC f k + (usedF f - oldN f k) + d.length
    · rw [if_pos h2, if_pos h2]
    · rw [if_neg h2, if_neg h2, (setRR_to h (by omega) a3 a4 hd (by omega)).1]
  · rw [if_neg h1, if_neg h1]
/-! bytes -/
theorem cut_add (f : Nat → Nat) (a n m : Nat) : cut f a (n + m) = cut f a n ++ cut f (a + n) m := by
  unfold cut
  rw [List.range_add, List.map_append, List.map_map]
  congr 1
  apply List.map_congr_left
  intro i _
  simp [Nat.add_assoc]
theorem putF_getL (l : List Nat) (h : Small l) : putF l.length (getL l) = l := by
  induction l with
  | nil => rfl
  | cons x l ih =>
    have hx := h x (List.mem_cons_self ..)
    have il := ih fun y hy => h y (List.mem_cons_of_mem _ hy)
    show (getL (x :: l)) % 256 :: putF l.length (getL (x :: l) / 256) = _
    have e : getL (x :: l) = x + 256 * getL l := rfl
    rw [e, show (x + 256 * getL l) % 256 = x by omega, show (x + 256 * getL l) / 256 = getL l by omega, il]
theorem put_rd (hs : ∀ i, f i < 256) (a n : Nat) : putF n (rd f a n) = cut f a n := by
  have := putF_getL (cut f a n) (cut_small hs a n)
  rw [cut_length] at this
  exact this
theorem entL_to (h : Sound f) (k : Nat) (hk : k ≤ cnt f) : entL (toR f) k = cut f 16 (4 * k) := by
  induction k with
  | zero => rfl
  | succ k ih =>
    show entL (toR f) k ++ putF 2 (oldA f k) ++ putF 2 (oldN f k) = _
    rw [ih (by omega), oldN_in (show k < cnt f by omega), show oldA f k = atN f k from if_pos (by omega), show 4 * (k + 1) = 4 * k + (2 + 2) by omega, cut_add, cut_add f (16 + 4 * k)]
    unfold atN lenN
    rw [put_rd h.small, put_rd h.small, show 16 + 4 * k + 2 = 18 + 4 * k by omega, List.append_assoc]
theorem bytes_to (h : Sound f) : bytesR (toR f) = cut f 0 448 := by
  have h40 := h.ok.c40
  unfold bytesR headL
  rw [toR_top h, toR_low h, entL_to h _ (Nat.le_refl _)]
  show putF 8 (rd f 0 8) ++ putF 4 (rd f 8 4) ++ putF 2 (rd f 12 2) ++ putF 2 (rd f 14 2) ++ _ ++ _ = _
  rw [put_rd h.small, put_rd h.small, put_rd h.small, put_rd h.small]
  have e : cut (toR f).B (16 + 4 * cnt f) (448 - (16 + 4 * cnt f)) = cut f (16 + 4 * cnt f) (448 - (16 + 4 * cnt f)) := cut_congr fun i a b => if_pos ⟨a, by omega⟩
  rw [e]
  have s1 : cut f 0 448 = cut f 0 16 ++ (cut f 16 (4 * cnt f) ++ cut f (16 + 4 * cnt f) (448 - (16 + 4 * cnt f))) := by
    rw [← cut_add, show 4 * cnt f + (448 - (16 + 4 * cnt f)) = 432 by omega]
    exact cut_add f 0 16 432
  have s2 : cut f 0 16 = cut f 0 8 ++ (cut f 8 4 ++ (cut f 12 2 ++ cut f 14 2)) := by
    rw [show (16 : Nat) = 8 + (4 + (2 + 2)) from rfl, cut_add f 0, cut_add f (0 + 8), cut_add f (0 + 8 + 4)]
  rw [s1, s2]
  simp only [List.append_assoc]
end
end Go.Proofs.Ytkknfccfgmflmaa
