/- page: the document's page is the page, as plain numbers. Conditions: none; no program in sight. -/
import Derived.Test.YtkknfccfgmflmaaPgRefM
namespace Go.Proofs.Ytkknfccfgmflmaa
open Go.ChangeShapes Go.WideShapes Go.ChangeAt Go.RowKit
open NumMath
set_option linter.unusedVariables false
set_option linter.unusedSimpArgs false

def toR (f : Nat → Nat) : RP := ⟨rd f 0 8, rd f 8 4, oldA f, oldN f, fun i => if 16 + 4 * cnt f ≤ i ∧ i < 448 then f i else 0⟩
theorem toR_B (f : Nat → Nat) : (toR f).B = fun i => if 16 + 4 * cnt f ≤ i ∧ i < 448 then f i else 0 := rfl
theorem clearRR_B (f : Nat → Nat) (s : Nat) : (clearRR (toR f) s).B = upd (toR f).B (oldA f s) (List.replicate (oldN f s) 0) := rfl
theorem RP.ext2 {r q : RP} (h1 : r.L = q.L) (h2 : r.N = q.N) (h3 : ∀ s, r.O s = q.O s) (h4 : ∀ s, r.S s = q.S s) (h5 : ∀ i, r.B i = q.B i) : r = q := by
  obtain ⟨a, b, c, d, e⟩ := r
  obtain ⟨a', b', c', d', e'⟩ := q
  simp only at h1 h2 h3 h4 h5
  subst h1
  subst h2
  rw [funext h3, funext h4, funext h5]
section
variable {f g : Nat → Nat}
theorem oldZ (h : Ok f) {t : Nat} (hn : oldN f t = 0) : oldA f t = 0 := by
  unfold oldA
  by_cases ht : t < cnt f
  · rw [if_pos ht]
    rw [oldN_in ht] at hn
    rcases h.ent t ht with q | q <;> omega
  · rw [if_neg ht]
theorem old_in {t : Nat} (h : 0 < oldN f t) : t < cnt f := by
  unfold oldN at h
  split at h
  · assumption
  · omega
theorem old_ent (h : Ok f) {t : Nat} (ht : 0 < oldN f t) : t < cnt f ∧ oldA f t = atN f t ∧ oldN f t = lenN f t ∧ 16 + 4 * cnt f ≤ oldA f t ∧ oldA f t + oldN f t ≤ 448 := by
  have h1 := old_in ht
  have e1 : oldA f t = atN f t := if_pos h1
  have e2 := oldN_in h1
  rcases h.ent t h1 with q | q
  · omega
  · exact ⟨h1, e1, e2, by omega, by omega⟩
theorem toR_fit (h : Sound f) : RFit (toR f) := by
  refine ⟨rd_lt h.small 0 8, rd_lt h.small 8 4, fun s hs => ⟨(fit_old h.ok s).1, (fit_old h.ok s).2.2⟩, fun i => ?_⟩
  show (if _ then f i else 0) < 256
  split
  · exact h.small i
  · omega
theorem toR_top (h : Sound f) : topN (toR f).S 40 = cnt f := (cnt_top h).symm
theorem toR_head (hh : ∀ i, i < 12 → g i = f i) : (toR g).L = (toR f).L ∧ (toR g).N = (toR f).N :=
  ⟨rd_congr fun i a b => hh i (by omega), rd_congr fun i a b => hh i (by omega)⟩
theorem lowS_to (h : Sound f) (k : Nat) (hk : k ≤ cnt f) : lowS (toR f) k = lowC f (slotsTo f k) 448 := by
  induction k with
  | zero => rfl
  | succ k ih =>
    rw [slotsTo_next]
    show (if 0 < oldN f k then min (lowS (toR f) k) (oldA f k) else lowS (toR f) k) = _
    rw [oldN_in (show k < cnt f by omega), ih (by omega), show oldA f k = atN f k from if_pos (by omega)]
    by_cases hz : 0 < lenN f k
    · rw [if_pos hz, if_pos hz, lowC_snoc]
    · rw [if_neg hz, if_neg hz, List.append_nil]
theorem lowS_more {r : RP} {k : Nat} (j : Nat) (h : ∀ t, k ≤ t → r.S t = 0) : lowS r (k + j) = lowS r k := by
  induction j with
  | zero => rfl
  | succ j ih =>
    show (if 0 < r.S (k + j) then _ else lowS r (k + j)) = _
    rw [if_neg (by have := h (k + j) (by omega); omega), ih]
theorem toR_low (h : Sound f) : lowS (toR f) 40 = lowN f := by
  have h40 := h.ok.c40
  have := lowS_more (r := toR f) (k := cnt f) (40 - cnt f) fun t ht => oldN_out ht
  rw [show cnt f + (40 - cnt f) = 40 by omega] at this
  rw [this, lowS_to h _ (Nat.le_refl _)]
  exact h.low.symm
theorem allS_none (S : Nat → Nat) (k : Nat) : allS S (-1) k = totN S k := by
  induction k with
  | zero => rfl
  | succ k ih =>
    show (if (k : Int) = -1 then allS S (-1) k else allS S (-1) k + S k) = totN S k + S k
    rw [if_neg (by omega), ih]
theorem allS_but (S : Nat → Nat) (b : Nat) (k : Nat) : allS S b k + (if b < k then S b else 0) = totN S k := by
  induction k with
  | zero => rfl
  | succ k ih =>
    show (if (k : Int) = (b : Int) then allS S b k else allS S b k + S k) + _ = totN S k + S k
    by_cases e : k = b
    · subst e
      rw [if_pos rfl, if_pos (by omega)]
      rw [if_neg (by omega)] at ih
      omega
    · rw [if_neg (by omega)]
      by_cases h : b < k
      · rw [if_pos h] at ih
        rw [if_pos (by omega)]
        omega
      · rw [if_neg h] at ih
        rw [if_neg (by omega)]
        omega
theorem allS_to (h : Sound f) {s : Nat} (hs : s < 40) : allS (toR f).S s 40 = usedF f - oldN f s := by
  have := allS_but (oldN f) s 40
  rw [if_pos hs, ← used_tot h.ok.c40] at this
  show allS (oldN f) s 40 = _
  omega
theorem slotsS_to (h : Sound f) : slotsS (toR f).S 40 = slotsF f := by
  have h40 := h.ok.c40
  have key : ∀ k, k ≤ cnt f → slotsS (oldN f) k = slotsTo f k := fun k hk => by
    unfold slotsS slotsTo
    apply List.filter_congr
    intro s hs
    rw [List.mem_range] at hs
    rw [oldN_in (show s < cnt f by omega)]
  have more : ∀ j, slotsS (oldN f) (cnt f + j) = slotsS (oldN f) (cnt f) := fun j => by
    induction j with
    | zero => rfl
    | succ j ih =>
      rw [show cnt f + (j + 1) = cnt f + j + 1 by omega, slotsS_next, ih, if_neg (by have := oldN_out (f := f) (s := cnt f + j) (by omega); omega), List.append_nil]
  have := more (40 - cnt f)
  rw [show cnt f + (40 - cnt f) = 40 by omega] at this
  show slotsS (oldN f) 40 = _
  rw [this, key _ (Nat.le_refl _)]
  rfl
/-- the bytes in a slot -/
theorem toR_dat (h : Sound f) (s : Nat) : cut (toR f).B (oldA f s) (oldN f s) = dat f s := by
  unfold dat
  by_cases hn : 0 < oldN f s
  · obtain ⟨h1, h2, h3, h4, h5⟩ := old_ent h.ok hn
    exact cut_congr fun i a b => if_pos ⟨by omega, by omega⟩
  · rw [show oldN f s = 0 by omega]
    rfl
theorem toR_get (h : Sound f) (s : Int) : getR (toR f) s = getP f s := by
  unfold getR getP
  by_cases h0 : 0 ≤ s
  · rw [if_pos h0]
    by_cases h1 : s < 40
    · rw [if_pos ⟨h0, h1⟩]
      exact toR_dat h s.toNat
    · rw [if_neg (fun q => h1 q.2)]
      exact (dat_old (oldN_out (by have := h.ok.c40; omega))).symm
  · rw [if_neg h0, if_neg (fun q => h0 q.1)]
theorem toR_new (n : Nat) (hn : n < 4294967296) : toR (newF n) = ⟨0, n, fun _ => 0, fun _ => 0, fun _ => 0⟩ := by
  obtain ⟨hS, hd⟩ := new_sound n
  obtain ⟨hc, -⟩ := new_cnt n
  have h8 : ∀ i, i < 8 → newF n i = 0 := fun i hi => by
    unfold newF
    rw [wr_out _ _ _ _ (by omega), wr_out _ _ _ _ (by omega)]
    rfl
  refine RP.ext2 ?_ ?_ (fun s => ?_) (fun s => ?_) (fun i => ?_)
  · show rd (newF n) 0 8 = 0
    rw [rd_congr (g := zeroF) fun i a b => (h8 i (by omega)).trans rfl]
    rfl
  · show rd (newF n) 8 4 = n
    unfold newF
    rw [rd_wr_out _ _ _ _ (by omega)]
    exact rd_wr _ _ _ _ (by omega)
  · show oldA (newF n) s = 0
    unfold oldA
    rw [hc, if_neg (by omega)]
  · show oldN (newF n) s = 0
    unfold oldN
    rw [hc, if_neg (by omega)]
  · show (if _ then newF n i else 0) = 0
    split
    · exact new_big n (by omega)
    · rfl
theorem toR_stamp (h : Sound f) {v : Nat} (hv : v < 18446744073709551616) : toR (wr f 0 8 v) = { toR f with L := v } := by
  have ho := (stamp_sound h v).2.1
  have hs : SameList f (wr f 0 8 v) := fun i a b c => ho i (by omega)
  have hc := hs.cnt
  refine RP.ext2 (rd_wr _ _ _ _ (by omega)) (rd_congr fun i a b => ho i (by omega)) (fun s => ?_) (fun s => ?_) (fun i => ?_)
  · show oldA _ s = oldA f s
    unfold oldA
    rw [hc]
    by_cases ht : s < cnt f
    · rw [if_pos ht, if_pos ht, (hs.ent ht).1]
    · rw [if_neg ht, if_neg ht]
  · show oldN _ s = oldN f s
    unfold oldN
    rw [hc]
    by_cases ht : s < cnt f
    · rw [if_pos ht, if_pos ht, (hs.ent ht).2]
    · rw [if_neg ht, if_neg ht]
  · show (if _ then _ else 0) = if _ then f i else 0
    rw [hc]
    by_cases hi : 16 + 4 * cnt f ≤ i ∧ i < 448
    · rw [if_pos hi, if_pos hi]
      exact ho i (by omega)
    · rw [if_neg hi, if_neg hi]
theorem toR_over (h : Sound f) {s : Nat} {d : List Nat} (hn : oldN f s = d.length) (hd1 : 1 ≤ d.length) : toR (upd f (oldA f s) d) = { toR f with B := upd (toR f).B (oldA f s) d } := by
  obtain ⟨h1, h2, h3, h4, h5⟩ := old_ent h.ok (show 0 < oldN f s by omega)
  rw [hn] at h5
  clear h2 h3 hn
  generalize oldA f s = a at *
  have hs : SameList f (upd f a d) := SameList.upd _ _ h4
  have hc := hs.cnt
  refine RP.ext2 (rd_congr fun i q1 q2 => upd_out _ _ _ (by omega)) (rd_congr fun i q1 q2 => upd_out _ _ _ (by omega)) (fun t => ?_) (fun t => ?_) (fun i => ?_)
  · show oldA _ t = oldA f t
    unfold oldA
    rw [hc]
    by_cases ht : t < cnt f
    · rw [if_pos ht, if_pos ht, (hs.ent ht).1]
    · rw [if_neg ht, if_neg ht]
  · show oldN _ t = oldN f t
    unfold oldN
    rw [hc]
    by_cases ht : t < cnt f
    · rw [if_pos ht, if_pos ht, (hs.ent ht).2]
    · rw [if_neg ht, if_neg ht]
  · show (if 16 + 4 * cnt (upd f a d) ≤ i ∧ i < 448 then upd f a d i else 0) = upd (fun i => if 16 + 4 * cnt f ≤ i ∧ i < 448 then f i else 0) a d i
    rw [hc]
    unfold upd
    by_cases hi : 16 + 4 * cnt f ≤ i ∧ i < 448
    · rw [if_pos hi]
      by_cases h : a ≤ i ∧ i < a + d.length
      · rw [if_pos h, if_pos h]
      · rw [if_neg h, if_neg h]
        dsimp only
        rw [if_pos hi]
    · rw [if_neg hi, if_neg (by omega)]
      dsimp only
      rw [if_neg hi]
theorem toR_clear (h : Sound f) {s : Nat} (hn : 0 < oldN f s) : toR (clrF f s) = clearRR (toR f) s := by
  obtain ⟨hs, e1, e2, e3, e4⟩ := old_ent h.ok hn
  obtain ⟨hS, hd⟩ := clr_sound h s
  have hh := fun i (hi : i < 12) => clr_head f s hi h.ok
  have hE : clrF f s = settleF (lst (zap f s) s 0 0) := by unfold clrF; rw [if_pos hn]; rfl
  have hsm := zap_same h.ok hs (by omega)
  have hN : ∀ t, oldN (clrF f s) t = if t = s then 0 else oldN f t := fun t => by
    rw [← dat_length, hd t]
    by_cases e : t = s
    · rw [if_pos e, if_pos e]; rfl
    · rw [if_neg e, if_neg e, dat_length]
  have hA : ∀ t, 0 < oldN (clrF f s) t → t ≠ s ∧ t < cnt f ∧ atN (clrF f s) t = atN f t := fun t ht => by
    have htn := hN t
    by_cases e : t = s
    · rw [if_pos e] at htn; omega
    · rw [if_neg e] at htn
      have hlt := old_in (f := f) (t := t) (by omega)
      refine ⟨e, hlt, ?_⟩
      rw [hE, (settle_ent _ t).1, (lst_other _ s 0 0 e).1, (hsm.ent hlt).1]
  refine RP.ext2 (toR_head hh).1 (toR_head hh).2 (fun t => ?_) (fun t => ?_) (fun i => ?_)
  · show oldA (clrF f s) t = if t = s then 0 else oldA f t
    by_cases hz : 0 < oldN (clrF f s) t
    · obtain ⟨a1, a2, a3⟩ := hA t hz
      rw [if_neg a1, (old_ent hS.ok hz).2.1, a3]
      exact (if_pos a2).symm
    · rw [oldZ hS.ok (by omega)]
      have := hN t
      by_cases e : t = s
      · rw [if_pos e]
      · rw [if_neg e] at this ⊢
        exact (oldZ h.ok (by omega)).symm
  · exact hN t
  · rw [clearRR_B, toR_B, toR_B, upd_zero]
    dsimp only
    by_cases hi : 16 + 4 * cnt f ≤ i ∧ i < 448
    · have hv : clrF f s i = if oldA f s ≤ i ∧ i < oldA f s + oldN f s then 0 else f i := by
        rw [hE, settle_out _ (by omega), lst_out _ _ _ _ (by omega), e1, e2]
        exact upd_zero f _ _ i
      have hcl := clr_cnt h s
      rw [if_pos ⟨by omega, hi.2⟩, hv]
      by_cases h2 : oldA f s ≤ i ∧ i < oldA f s + oldN f s
      · rw [if_pos h2, if_pos h2]
      · rw [if_neg h2, if_neg h2, if_pos hi]
    · have hz : (if oldA f s ≤ i ∧ i < oldA f s + oldN f s then 0 else if 16 + 4 * cnt f ≤ i ∧ i < 448 then f i else 0) = 0 := by
        rw [if_neg hi]
        split <;> rfl
      rw [hz]
      by_cases h3 : 16 + 4 * cnt (clrF f s) ≤ i ∧ i < 448
      · rw [if_pos h3]
        refine hS.zero i h3.1 h3.2 fun ⟨t, b1, b2, b3, b4⟩ => ?_
        obtain ⟨a1, a2, a3⟩ := hA t (by rw [oldN_in b1]; exact b2)
        rw [a3] at b3
        have htn := hN t
        rw [if_neg a1] at htn
        have hp : 0 < oldN f t := by rw [← htn, oldN_in b1]; exact b2
        have := old_ent h.ok hp
        omega
      · rw [if_neg h3]
theorem topN_up (n : Nat → Nat) (s v : Nat) (hv : 0 < v) (k : Nat) (hk : s < k) : topN (up1 n s v) k = max (topN n k) (s + 1) := by
  induction k with
  | zero => omega
  | succ k ih =>
    have hle := topN_le n (k + 1)
    show (if 0 < up1 n s v k then k + 1 else topN (up1 n s v) k) = _
    by_cases e : k = s
    · subst e
      rw [show up1 n k v k = v from if_pos rfl, if_pos hv]
      omega
    · rw [show up1 n s v k = n k from if_neg e]
      have := ih (by omega)
      show _ = max (if 0 < n k then k + 1 else topN n k) (s + 1)
      by_cases h : 0 < n k
      · rw [if_pos h, if_pos h]; omega
      · rw [if_neg h, if_neg h]; exact this
theorem toR_put (h : Sound g) {s : Nat} (hs : s < 40) (he : oldN g s = 0) {d : List Nat} (hd1 : 1 ≤ d.length) (hd2 : d.length ≤ 64) (hd : Small d) (hl : 16 + 4 * max (cnt g) (s + 1) + d.length ≤ lowN g) :
    toR (settleF (putS g s d)) = putR (toR g) s d := by
  obtain ⟨p1, p2, p3⟩ := put_pre h hs he hd1 hd2 hd hl
  have hS := settle_sound p1
  have h448 := low_448 h
  have hc40 := h.ok.c40
  have hN : ∀ t, oldN (settleF (putS g s d)) t = up1 (oldN g) s d.length t := fun t => by
    rw [← dat_length, settle_dat p1, p2]
    unfold up1
    by_cases e : t = s
    · rw [if_pos e, if_pos e]
    · rw [if_neg e, if_neg e, dat_length]
  have hc : cnt (settleF (putS g s d)) = max (cnt g) (s + 1) := by
    rw [cnt_top hS, show oldN (settleF (putS g s d)) = up1 (oldN g) s d.length from funext hN, topN_up _ _ _ (by omega) _ hs, ← cnt_top h]
  have hlow : lowS (toR g) 40 = lowN g := toR_low h
  obtain ⟨c4, hc4⟩ : ∃ c4, max (cnt g) (s + 1) = c4 := ⟨_, rfl⟩
  have hle1 : cnt g ≤ c4 := by omega
  have hle2 : s < c4 := by omega
  obtain ⟨a, ha⟩ : ∃ a, lowN g - d.length = a := ⟨_, rfl⟩
  rw [hc4] at hl hc
  have hP : putS g s d = lst (upd (wr g 12 2 c4) a d) s a d.length := by unfold putS; rw [hc4, ha]
  unfold putR
  rw [hlow, ha]
  have hh : ∀ i, i < 12 → settleF (putS g s d) i = g i := fun i hi => (settle_out _ (.inl hi)).trans (p3 i hi)
  refine RP.ext2 (toR_head hh).1 (toR_head hh).2 (fun t => ?_) (fun t => hN t) (fun i => ?_)
  · show oldA _ t = up1 (oldA g) s a t
    have hNt := hN t
    unfold up1 at hNt ⊢
    by_cases e : t = s
    · subst e
      rw [if_pos rfl] at hNt ⊢
      rw [show oldA (settleF (putS g t d)) t = atN (settleF (putS g t d)) t from if_pos (by omega), (settle_ent _ t).1, hP]
      exact (lst_at _ t a d.length (by omega) (by omega)).1
    · rw [if_neg e] at hNt ⊢
      by_cases hz : oldN g t = 0
      · rw [oldZ hS.ok (by omega), oldZ h.ok hz]
      · have hlt := old_in (f := g) (t := t) (by omega)
        rw [show oldA (settleF (putS g s d)) t = atN (settleF (putS g s d)) t from if_pos (by omega), (settle_ent _ t).1, hP, (lst_other _ s a d.length e).1, show oldA g t = atN g t from if_pos hlt]
        exact rd_congr fun i q1 q2 => by rw [upd_out _ _ _ (by omega), wr_out _ _ _ _ (by omega)]
  · show (if 16 + 4 * cnt (settleF (putS g s d)) ≤ i ∧ i < 448 then settleF (putS g s d) i else 0) = upd (fun i => if 16 + 4 * cnt g ≤ i ∧ i < 448 then g i else 0) a d i
    rw [hc]
    by_cases hi : 16 + 4 * c4 ≤ i ∧ i < 448
    · rw [if_pos hi, settle_out _ (by omega), hP, lst_out _ _ _ _ (by omega)]
      unfold upd
      by_cases h2 : a ≤ i ∧ i < a + d.length
      · rw [if_pos h2, if_pos h2]
      · rw [if_neg h2, if_neg h2]
        dsimp only
        rw [if_pos ⟨by omega, hi.2⟩]
        exact wr_out _ _ _ _ (by omega)
    · rw [if_neg hi, upd_out _ _ _ (by omega)]
      by_cases h3 : 16 + 4 * cnt g ≤ i ∧ i < 448
      · rw [if_pos h3]
        refine (h.zero i h3.1 h3.2 fun ⟨t, b1, b2, b3, b4⟩ => ?_).symm
        have := low_mem h b1 b2
        omega
      · rw [if_neg h3]
end
end Go.Proofs.Ytkknfccfgmflmaa
