/- page: Set. Conditions: none; no program in sight. -/
import Derived.Test.YtkknfccfgmflmaaPgInv2
namespace Go.Proofs.Ytkknfccfgmflmaa
open Go.ChangeShapes Go.WideShapes Go.ChangeAt Go.RowKit
open NumMath
set_option linter.unusedVariables false
set_option linter.unusedSimpArgs false

def totN (n : Nat → Nat) : Nat → Nat
  | 0 => 0
  | k + 1 => totN n k + n k
theorem totN_congr {n m : Nat → Nat} (k : Nat) (h : ∀ t, t < k → n t = m t) : totN n k = totN m k := by
  induction k with
  | zero => rfl
  | succ k ih =>
    show totN n k + n k = totN m k + m k
    rw [ih fun t ht => h t (by omega), h k (by omega)]
theorem totN_one {n m : Nat → Nat} (s : Nat) (h : ∀ t, t ≠ s → m t = n t) (k : Nat) (hk : s < k) : totN m k + n s = totN n k + m s := by
  induction k with
  | zero => omega
  | succ k ih =>
    show totN m k + m k + n s = totN n k + n k + m s
    rcases Nat.lt_or_ge s k with q | q
    · have := ih q
      rw [h k (by omega)]
      omega
    · obtain rfl : s = k := by omega
      rw [totN_congr s fun t ht => h t (by omega)]
      omega
theorem used_tot {f : Nat → Nat} (h : cnt f ≤ 40) : usedF f = totN (oldN f) 40 := by
  have key : ∀ k, cnt f ≤ k → totN (oldN f) k = usedTo f (cnt f) := by
    intro k
    induction k with
    | zero =>
      intro hk
      have h0 : cnt f = 0 := by omega
      rw [h0]
      rfl
    | succ k ih =>
      intro hk
      rcases Nat.lt_or_ge k (cnt f) with q | q
      · have e : cnt f = k + 1 := by omega
        have : ∀ j, j ≤ cnt f → totN (oldN f) j = usedTo f j := by
          intro j
          induction j with
          | zero => intro _; rfl
          | succ j ih =>
            intro hj
            show totN (oldN f) j + oldN f j = usedTo f j + lenN f j
            rw [ih (by omega)]
            unfold oldN
            rw [if_pos (by omega)]
        rw [e]
        have h2 := this (k + 1) (by omega)
        exact h2
      · show totN (oldN f) k + oldN f k = _
        rw [ih q]
        unfold oldN
        rw [if_neg (by omega), Nat.add_zero]
  exact (key 40 h).symm
section
variable {f g : Nat → Nat}
theorem low_mem (h : Sound f) {t : Nat} (ht : t < cnt f) (hn : 0 < lenN f t) : lowN f ≤ atN f t := by
  rw [h.low]
  exact lowC_mem f _ _ t (slotsTo_iff.2 ⟨ht, hn⟩)
theorem low_448 (h : Sound f) : lowN f ≤ 448 := by
  rw [h.low]
  exact lowC_le _ _ _
theorem clr_cnt (h : Sound f) (s : Nat) : cnt (clrF f s) ≤ cnt f := by
  unfold clrF
  split
  · rename_i hn
    have hs : s < cnt f := by
      unfold oldN at hn
      split at hn
      · assumption
      · omega
    unfold oldN at hn
    rw [if_pos hs] at hn
    obtain ⟨h1, h2⟩ := clear_pre h.toPre hs hn
    show cnt (settleF _) ≤ _
    rw [(settle_cnt h1.ok).1]
    refine Nat.le_trans (top_le h1.ok) ?_
    rw [lst_cnt, (zap_same h.ok hs hn).cnt]
    exact Nat.le_refl _
  · exact Nat.le_refl _
/-- data put where there is room -/
theorem put_pre (h : Sound g) {s : Nat} (hs : s < 40) (he : oldN g s = 0) {d : List Nat} (hd1 : 1 ≤ d.length) (hd2 : d.length ≤ 64) (hd : Small d) (hl : 16 + 4 * max (cnt g) (s + 1) + d.length ≤ lowN g) :
    Pre (putS g s d) ∧ (∀ t, dat (putS g s d) t = if t = s then d else dat g t) ∧ (∀ i, i < 12 → putS g s d i = g i) := by
  have h448 := low_448 h
  have hc40 := h.ok.c40
  obtain ⟨c4, hc4⟩ : ∃ c4, max (cnt g) (s + 1) = c4 := ⟨_, rfl⟩
  have hle1 : cnt g ≤ c4 := by omega
  have hle2 : s < c4 := by omega
  have hle3 : c4 ≤ 40 := by omega
  obtain ⟨a, ha⟩ : ∃ a, lowN g - d.length = a := ⟨_, rfl⟩
  obtain ⟨lw, hlw⟩ : ∃ lw, lowN g = lw := ⟨_, rfl⟩
  have hmem := fun t (ht : t < cnt g) (hn : 0 < lenN g t) => low_mem h ht hn
  rw [hc4, hlw] at hl
  have hP : putS g s d = lst (upd (wr g 12 2 c4) a d) s a d.length := by unfold putS; rw [hc4, ha]
  rw [hP]
  rw [hlw] at ha hmem h448
  have hzero : ∀ i, 16 + 4 * cnt g ≤ i → i < lw → g i = 0 := fun i h1 h2 => h.zero i h1 (by omega) fun ⟨t, b1, b2, b3, b4⟩ => by
    have := hmem t b1 b2
    omega
  have hout : ∀ i, (i < 12 ∨ 14 ≤ i) → (i < 16 + 4 * s ∨ 20 + 4 * s ≤ i) → (i < a ∨ lw ≤ i) → lst (upd (wr g 12 2 c4) a d) s a d.length i = g i := fun i h1 h2 h3 => by
    rw [lst_out _ _ _ _ h2, upd_out _ _ _ (by omega)]
    exact wr_out _ _ _ _ (by omega)
  have hself := lst_at (upd (wr g 12 2 c4) a d) s a d.length (by omega) (by omega)
  have hcnt : cnt (lst (upd (wr g 12 2 c4) a d) s a d.length) = c4 := by
    rw [lst_cnt]
    have : cnt (upd (wr g 12 2 c4) a d) = cnt (wr g 12 2 c4) := rd_congr fun i h1 h2 => upd_out _ _ _ (by omega)
    rw [this]
    exact rd_wr _ _ _ _ (by omega)
  have hoth : ∀ t, t < c4 → t ≠ s → atN (lst (upd (wr g 12 2 c4) a d) s a d.length) t = atN g t ∧ lenN (lst (upd (wr g 12 2 c4) a d) s a d.length) t = lenN g t := fun t h1 h2 =>
    ⟨rd_congr fun i b1 b2 => hout i (by omega) (by omega) (by omega), rd_congr fun i b1 b2 => hout i (by omega) (by omega) (by omega)⟩
  have hnew : ∀ t, cnt g ≤ t → t < c4 → atN g t = 0 ∧ lenN g t = 0 := fun t h1 h2 => entry_of_zero fun i b1 b2 => hzero i (by omega) (by omega)
  have hs0 : s < cnt g → lenN g s = 0 := fun q => by
    unfold oldN at he
    rw [if_pos q] at he
    exact he
  have hlen : ∀ t, t < c4 → t ≠ s → 0 < lenN g t → t < cnt g ∧ lw ≤ atN g t := fun t h1 h2 h3 => by
    have h4 : t < cnt g := by
      rcases Nat.lt_or_ge t (cnt g) with q | q
      · exact q
      · have := (hnew t q h1).2
        omega
    exact ⟨h4, hmem t h4 h3⟩
  refine ⟨⟨⟨by rw [hcnt]; exact hle3, fun t ht => ?_⟩, fun t u h1 h2 hne h3 h4 => ?_, fun i h1 h2 h3 => ?_, fun i => ?_⟩, fun t => ?_, fun i hi => hout i (by omega) (by omega) (by omega)⟩
  · rw [hcnt] at ht ⊢
    by_cases e : t = s
    · subst e
      rw [hself.1, hself.2]
      exact .inr ⟨by omega, hd2, by omega, by omega⟩
    · rw [(hoth t ht e).1, (hoth t ht e).2]
      rcases Nat.lt_or_ge t (cnt g) with q | q
      · rcases h.ok.ent t q with y | y
        · exact .inl y
        · have := hmem t q y.1
          exact .inr ⟨y.1, y.2.1, by omega, y.2.2.2⟩
      · exact .inl ⟨(hnew t q ht).2, (hnew t q ht).1⟩
  · rw [hcnt] at h1 h2
    by_cases et : t = s
    · subst et
      have eu : u ≠ t := fun z => hne z.symm
      rw [(hoth u h2 eu).2] at h4
      rw [hself.1, hself.2, (hoth u h2 eu).1, (hoth u h2 eu).2]
      have := (hlen u h2 eu h4).2
      omega
    · rw [(hoth t h1 et).2] at h3
      rw [(hoth t h1 et).1, (hoth t h1 et).2]
      have q1 := hlen t h1 et h3
      by_cases eu : u = s
      · subst eu
        rw [hself.1, hself.2]
        omega
      · rw [(hoth u h2 eu).2] at h4
        rw [(hoth u h2 eu).1, (hoth u h2 eu).2]
        exact h.dis t u q1.1 (hlen u h2 eu h4).1 hne h3 h4
  · rw [hcnt] at h1
    have hni : ¬ (a ≤ i ∧ i < lw) := fun q => h3 ⟨s, by rw [hcnt]; exact hle2, by rw [hself.2]; omega, by rw [hself.1]; exact q.1, by rw [hself.1, hself.2]; omega⟩
    rw [hout i (by omega) (by omega) (by omega)]
    refine h.zero i (by omega) h2 fun ⟨t, b1, b2, b3, b4⟩ => h3 ⟨t, by rw [hcnt]; omega, ?_⟩
    have et : t ≠ s := fun z => by subst z; have := hs0 b1; omega
    rw [(hoth t (by omega) et).1, (hoth t (by omega) et).2]
    exact ⟨b2, b3, b4⟩
  · exact wr_small (fun i => wr_small (fun i => upd_small (wr_small h.small _ _ _) _ hd i) _ _ _ i) _ _ _ i
  · unfold dat oldA oldN
    rw [hcnt]
    by_cases e : t = s
    · subst e
      rw [if_pos hle2, if_pos hle2, if_pos rfl, hself.1, hself.2]
      rw [cut_congr (g := upd (wr g 12 2 c4) a d) fun i b1 b2 => lst_out _ _ _ _ (by omega)]
      exact cut_upd _ _ _
    · rw [if_neg e]
      by_cases ht : t < cnt g
      · rw [if_pos ht, if_pos ht, if_pos (show t < c4 by omega), if_pos (show t < c4 by omega), (hoth t (by omega) e).1, (hoth t (by omega) e).2]
        rcases Nat.eq_zero_or_pos (lenN g t) with q | q
        · rw [q]; rfl
        · have := hmem t ht q
          exact cut_congr fun i b1 b2 => hout i (by omega) (by omega) (by omega)
      · rw [if_neg ht, if_neg ht]
        by_cases ht4 : t < c4
        · rw [if_pos ht4, if_pos ht4, (hoth t ht4 e).2, (hnew t (by omega) ht4).2]; rfl
        · rw [if_neg ht4, if_neg ht4]; rfl
/-- data of the same length, in place -/
theorem over_sound (h : Sound f) {s : Nat} (hs : s < cnt f) {d : List Nat} (hn : lenN f s = d.length) (hd1 : 1 ≤ d.length) (hd : Small d) :
    Sound (upd f (atN f s) d) ∧ (∀ t, dat (upd f (atN f s) d) t = if t = s then d else dat f t) ∧ (∀ i, i < 12 → upd f (atN f s) d i = f i) := by
  have hent := h.ok.ent s hs
  have hsame : SameList f (upd f (atN f s) d) := SameList.upd _ _ (by omega)
  have hc := hsame.cnt
  have hdis := fun t (ht : t < cnt f) (hne : t ≠ s) (hl : 0 < lenN f t) => h.dis s t hs ht (fun e => hne e.symm) (by omega) hl
  refine ⟨⟨⟨hsame.ok h.ok, fun t u h1 h2 hne h3 h4 => ?_, fun i h1 h2 h3 => ?_, fun i => upd_small h.small _ hd i⟩, ?_, ?_⟩, fun t => ?_, fun i hi => upd_out _ _ _ (by omega)⟩
  · rw [hc] at h1 h2
    rw [(hsame.ent h1).2] at h3 ⊢
    rw [(hsame.ent h2).2] at h4 ⊢
    rw [(hsame.ent h1).1, (hsame.ent h2).1]
    exact h.dis t u h1 h2 hne h3 h4
  · rw [hc] at h1
    have hni : ¬ (atN f s ≤ i ∧ i < atN f s + d.length) := fun q => h3 ⟨s, by rw [hc]; exact hs, by rw [(hsame.ent hs).2]; omega, by rw [(hsame.ent hs).1]; exact q.1, by rw [(hsame.ent hs).1, (hsame.ent hs).2]; omega⟩
    rw [upd_out _ _ _ (by omega)]
    refine h.zero i h1 h2 fun ⟨t, b1, b2, b3, b4⟩ => h3 ⟨t, by rw [hc]; exact b1, ?_⟩
    rw [(hsame.ent b1).1, (hsame.ent b1).2]
    exact ⟨b2, b3, b4⟩
  · have h1 : lowN (upd f (atN f s) d) = lowN f := rd_congr fun i b1 b2 => upd_out _ _ _ (by omega)
    rw [h1, h.low, hsame.slots]
    exact (lowC_congr _ _ fun t ht => (hsame.ent (slotsTo_mem ht).1).1).symm
  · rw [hc, h.top, hsame.slots]
  · unfold dat oldA oldN
    rw [hc]
    by_cases e : t = s
    · subst e
      rw [if_pos hs, if_pos hs, if_pos rfl, (hsame.ent hs).1, (hsame.ent hs).2, hn]
      exact cut_upd _ _ _
    · rw [if_neg e]
      by_cases ht : t < cnt f
      · rw [if_pos ht, if_pos ht, if_pos ht, if_pos ht, (hsame.ent ht).1, (hsame.ent ht).2]
        rcases Nat.eq_zero_or_pos (lenN f t) with q | q
        · rw [q]; rfl
        · have := hdis t ht e q
          exact cut_congr fun i b1 b2 => upd_out _ _ _ (by omega)
      · rw [if_neg ht, if_neg ht, if_neg ht, if_neg ht]; rfl
theorem used_clr (h : Sound f) {s : Nat} (hs : s < 40) : usedF (clrF f s) + oldN f s = usedF f ∧ oldN (clrF f s) s = 0 := by
  obtain ⟨h1, h2⟩ := clr_sound h s
  have e0 : oldN (clrF f s) s = 0 := by
    rw [← dat_length, h2, if_pos rfl]
    rfl
  refine ⟨?_, e0⟩
  rw [used_tot h.ok.c40, used_tot h1.ok.c40]
  have := totN_one (n := oldN f) (m := oldN (clrF f s)) s (fun t ht => by rw [← dat_length, h2, if_neg ht, dat_length]) 40 hs
  rw [e0] at this
  omega
/-- all that Set wants and leaves -/
theorem set_sound (h : Sound f) {s : Nat} (hs : s < 40) {d : List Nat} (hd1 : 1 ≤ d.length) (hd2 : d.length ≤ 64) (hd : Small d) (hfit : 16 + 4 * needC f s + (usedF f - oldN f s) + d.length ≤ 448) :
    (oldN f s ≠ d.length → SetOk f s d) ∧ Sound (setR f s d) ∧ (∀ t, dat (setR f s d) t = if t = s then d else dat f t) ∧ (∀ i, i < 12 → setR f s d i = f i) := by
  obtain ⟨h1, h2⟩ := clr_sound h s
  obtain ⟨hu1, hu2⟩ := used_clr h hs
  have hcl := clr_cnt h s
  have hn : cnt f ≤ needC f s ∧ s + 1 ≤ needC f s := by unfold needC; omega
  have hcf : 16 + 4 * cnt (clrF f s) + usedF (clrF f s) ≤ 448 := by omega
  obtain ⟨k1, k2, k3, k4, k5⟩ := comp_sound h1.toPre hcf
  obtain ⟨m1, m2, -⟩ := laid_pre h1.toPre hcf
  have hcmp : Sound (cmpF f s d) ∧ (∀ t, dat (cmpF f s d) t = if t = s then [] else dat f t) ∧ (∀ i, i < 12 → cmpF f s d i = f i) ∧ cnt (cmpF f s d) ≤ needC f s ∧ 16 + 4 * needC f s + d.length ≤ lowN (cmpF f s d) := by
    unfold cmpF
    by_cases ht : tight f s d
    · rw [if_pos ht]
      exact ⟨k1, fun t => (k2 t).trans (h2 t), fun i hi => (k3 i hi).trans (clr_head f s hi h.ok), by omega, by omega⟩
    · rw [if_neg ht]
      have ht' : ¬ lowN (clrF f s) < 16 + 4 * needC f s + d.length := ht
      exact ⟨h1, h2, fun i hi => clr_head f s hi h.ok, by omega, by omega⟩
  obtain ⟨c1, c2, c3, c4, c5⟩ := hcmp
  have he : oldN (cmpF f s d) s = 0 := by
    rw [← dat_length, c2, if_pos rfl]
    rfl
  obtain ⟨p1, p2, p3⟩ := put_pre c1 hs he hd1 hd2 hd (by omega)
  refine ⟨fun _ => ⟨h1.ok, fun _ => ⟨m2.ok, m1⟩, c1.ok, by omega, low_448 c1, p1.ok⟩, ?_⟩
  unfold setR
  by_cases e : oldN f s = d.length
  · rw [if_pos e]
    have hs' : s < cnt f := by
      unfold oldN at e
      split at e
      · assumption
      · omega
    have ea : oldA f s = atN f s := if_pos hs'
    have en : oldN f s = lenN f s := if_pos hs'
    rw [ea]
    exact over_sound h hs' (en.symm.trans e) hd1 hd
  · rw [if_neg e]
    refine ⟨settle_sound p1, fun t => ?_, fun i hi => ?_⟩
    · show dat (settleF _) t = _
      rw [settle_dat p1 t, p2 t]
      by_cases et : t = s
      · rw [if_pos et, if_pos et]
      · rw [if_neg et, if_neg et, c2 t, if_neg et]
    · show settleF _ i = _
      rw [settle_out _ (.inl hi), p3 i hi, c3 i hi]
end
end Go.Proofs.Ytkknfccfgmflmaa
