/- page: what holds of a page that was made by its own calls; settle, Clear. Conditions: none; no program in sight. -/
import Derived.Test.YtkknfccfgmflmaaPgSet
namespace Go.Proofs.Ytkknfccfgmflmaa
open Go.ChangeShapes Go.WideShapes Go.ChangeAt Go.RowKit
open NumMath
set_option linter.unusedVariables false
set_option linter.unusedSimpArgs false

/-- this byte is a slot's -/
def isIn (f : Nat → Nat) (i : Nat) : Prop := ∃ s, s < cnt f ∧ 0 < lenN f s ∧ atN f s ≤ i ∧ i < atN f s + lenN f s
/-- lists and data lie as they must, the head aside -/
structure Pre (f : Nat → Nat) : Prop where
  ok : Ok f
  dis : ∀ s t, s < cnt f → t < cnt f → s ≠ t → 0 < lenN f s → 0 < lenN f t → atN f s + lenN f s ≤ atN f t ∨ atN f t + lenN f t ≤ atN f s
  zero : ∀ i, 16 + 4 * cnt f ≤ i → i < 448 → ¬ isIn f i → f i = 0
  small : ∀ i, f i < 256
structure Sound (f : Nat → Nat) : Prop extends Pre f where
  low : lowN f = lowC f (slotsF f) 448
  top : cnt f = topC (slotsF f) 0
/-- what is in a slot -/
def dat (f : Nat → Nat) (s : Nat) : List Nat := cut f (oldA f s) (oldN f s)
theorem dat_length (f : Nat → Nat) (s : Nat) : (dat f s).length = oldN f s := cut_length _ _ _
theorem rd2_zero {f : Nat → Nat} {a : Nat} (h : rd f a 2 = 0) : f a = 0 ∧ f (a + 1) = 0 := by
  have : f a + 256 * (f (a + 1) + 256 * 0) = 0 := h
  omega
theorem entry_zero {f : Nat → Nat} {s : Nat} (h1 : atN f s = 0) (h2 : lenN f s = 0) {i : Nat} (h3 : 16 + 4 * s ≤ i) (h4 : i < 20 + 4 * s) : f i = 0 := by
  obtain ⟨a1, a2⟩ := rd2_zero h1
  obtain ⟨b1, b2⟩ := rd2_zero h2
  rcases (show i = 16 + 4 * s ∨ i = 16 + 4 * s + 1 ∨ i = 18 + 4 * s ∨ i = 18 + 4 * s + 1 from by omega) with rfl | rfl | rfl | rfl
  · exact a1
  · exact a2
  · exact b1
  · exact b2
theorem entry_of_zero {f : Nat → Nat} {s : Nat} (h : ∀ i, 16 + 4 * s ≤ i → i < 20 + 4 * s → f i = 0) : atN f s = 0 ∧ lenN f s = 0 := by
  constructor
  · show f (16 + 4 * s) + 256 * (f (16 + 4 * s + 1) + 256 * 0) = 0
    rw [h _ (by omega) (by omega), h _ (by omega) (by omega)]
  · show f (18 + 4 * s) + 256 * (f (18 + 4 * s + 1) + 256 * 0) = 0
    rw [h _ (by omega) (by omega), h _ (by omega) (by omega)]
theorem topC_ge (l : List Nat) (c : Nat) (hp : l.Pairwise (· < ·)) (hc : ∀ s ∈ l, c ≤ s + 1) : ∀ s ∈ l, s < topC l c := by
  induction l generalizing c with
  | nil => intro s hs; cases hs
  | cons x l ih =>
    intro s hs
    rw [List.pairwise_cons] at hp
    have hr := ih (x + 1) hp.2 (fun t ht => by have := hp.1 t ht; omega)
    have hx : x < topC l (x + 1) := by
      cases l with
      | nil => exact Nat.lt_succ_self x
      | cons y l =>
        have h1 := hr y (List.mem_cons_self ..)
        have := hp.1 y (List.mem_cons_self ..)
        omega
    rcases List.mem_cons.1 hs with rfl | h
    · exact hx
    · exact hr s h
theorem slotsTo_pair (f : Nat → Nat) (k : Nat) : (slotsTo f k).Pairwise (· < ·) := by
  unfold slotsTo
  exact List.Pairwise.filter _ List.pairwise_lt_range
theorem slots_lt_top (f : Nat → Nat) : ∀ s ∈ slotsF f, s < topC (slotsF f) 0 := topC_ge _ 0 (slotsTo_pair f _) fun _ _ => Nat.zero_le _
theorem slotsTo_iff {f : Nat → Nat} {k s : Nat} : s ∈ slotsTo f k ↔ s < k ∧ 0 < lenN f s := by
  unfold slotsTo
  rw [List.mem_filter, List.mem_range]
  simp
theorem lowC_mem (f : Nat → Nat) (l : List Nat) (m : Nat) : ∀ s ∈ l, lowC f l m ≤ atN f s := by
  induction l generalizing m with
  | nil => intro s hs; cases hs
  | cons x l ih =>
    intro s hs
    rcases List.mem_cons.1 hs with rfl | h
    · exact Nat.le_trans (lowC_le f l _) (Nat.min_le_right _ _)
    · exact ih _ s h
theorem lowC_ge (f : Nat → Nat) (l : List Nat) (m b : Nat) (hm : b ≤ m) (h : ∀ s ∈ l, b ≤ atN f s) : b ≤ lowC f l m := by
  induction l generalizing m with
  | nil => exact hm
  | cons x l ih => exact ih _ (Nat.le_min.2 ⟨hm, h x (List.mem_cons_self ..)⟩) fun s hs => h s (List.mem_cons_of_mem _ hs)
theorem lowC_congr {f g : Nat → Nat} (l : List Nat) (m : Nat) (h : ∀ s ∈ l, atN g s = atN f s) : lowC g l m = lowC f l m := by
  induction l generalizing m with
  | nil => rfl
  | cons x l ih =>
    show lowC g l (min m (atN g x)) = lowC f l (min m (atN f x))
    rw [h x (List.mem_cons_self ..)]
    exact ih _ fun s hs => h s (List.mem_cons_of_mem _ hs)
theorem settle_out (f : Nat → Nat) {i : Nat} (h : i < 12 ∨ 16 ≤ i) : settleF f i = f i := by
  unfold settleF
  rw [wr_out _ _ _ _ (by omega), wr_out _ _ _ _ (by omega)]
section
variable {f : Nat → Nat}
theorem settle_cnt (h : Ok f) : cnt (settleF f) = topC (slotsF f) 0 ∧ lowN (settleF f) = lowC f (slotsF f) 448 := by
  have h1 : topC (slotsF f) 0 ≤ cnt f := topC_le _ 0 _ (Nat.zero_le _) fun s hs => (slotsTo_mem hs).1
  have h2 := lowC_le f (slotsF f) 448
  have h40 := h.c40
  constructor
  · unfold cnt settleF
    rw [rd_wr_out _ _ _ _ (by omega)]
    exact rd_wr _ _ _ _ (by omega)
  · unfold lowN settleF
    exact rd_wr _ _ _ _ (by omega)
theorem settle_ent (f : Nat → Nat) (s : Nat) : atN (settleF f) s = atN f s ∧ lenN (settleF f) s = lenN f s :=
  ⟨rd_congr fun i h1 h2 => settle_out f (by omega), rd_congr fun i h1 h2 => settle_out f (by omega)⟩
theorem top_le (h : Ok f) : topC (slotsF f) 0 ≤ cnt f := topC_le _ 0 _ (Nat.zero_le _) fun s hs => (slotsTo_mem hs).1
theorem settle_slots (h : Ok f) : slotsF (settleF f) = slotsF f := by
  have hc := (settle_cnt h).1
  have hle := top_le h
  have e1 : slotsF (settleF f) = slotsTo f (topC (slotsF f) 0) := by
    unfold slotsF
    rw [show cnt (settleF f) = topC (slotsTo f (cnt f)) 0 from hc]
    exact slotsTo_congr fun s hs => (settle_ent f s).2
  rw [e1]
  have key : ∀ k, topC (slotsF f) 0 ≤ k → k ≤ cnt f → slotsTo f k = slotsTo f (topC (slotsF f) 0) := by
    intro k
    induction k with
    | zero => intro h1 _; rw [show topC (slotsF f) 0 = 0 by omega]
    | succ k ih =>
      intro h1 h2
      rcases Nat.lt_or_ge k (topC (slotsF f) 0) with q | q
      · rw [show k + 1 = topC (slotsF f) 0 by omega]
      · rw [slotsTo_next, ih q (by omega), if_neg, List.append_nil]
        intro hl
        have := slots_lt_top f k (slotsTo_iff.2 ⟨by omega, hl⟩)
        omega
  exact (key (cnt f) hle (Nat.le_refl _)).symm
theorem wr_all_small (h : ∀ i, f i < 256) : ∀ i, settleF f i < 256 := fun i => wr_small (fun i => wr_small h _ _ _ i) _ _ _ i
theorem settle_sound (h : Pre f) : Sound (settleF f) := by
  obtain ⟨hc, hl⟩ := settle_cnt h.ok
  have hle := top_le h.ok
  have hs := settle_slots h.ok
  have hlt : ∀ s, s < cnt f → 0 < lenN f s → s < topC (slotsF f) 0 := fun s h1 h2 => slots_lt_top f s (slotsTo_iff.2 ⟨h1, h2⟩)
  refine ⟨⟨⟨by rw [hc]; have := h.ok.c40; omega, fun s hs => ?_⟩, fun s t h1 h2 hne => ?_, fun i h1 h2 h3 => ?_, wr_all_small h.small⟩, ?_, ?_⟩
  · rw [hc] at hs ⊢
    rw [(settle_ent f s).1, (settle_ent f s).2]
    rcases h.ok.ent s (by omega) with q | q
    · exact .inl q
    · exact .inr ⟨q.1, q.2.1, by omega, q.2.2.2⟩
  · rw [hc] at h1 h2
    rw [(settle_ent f s).1, (settle_ent f s).2, (settle_ent f t).1, (settle_ent f t).2]
    exact h.dis s t (by omega) (by omega) hne
  · rw [hc] at h1
    rw [settle_out f (by omega)]
    rcases Nat.lt_or_ge i (16 + 4 * cnt f) with q | q
    · have hes : (i - 16) / 4 < cnt f := by omega
      rcases h.ok.ent ((i - 16) / 4) hes with y | y
      · exact entry_zero y.2 y.1 (by omega) (by omega)
      · have := hlt _ hes y.1
        omega
    · refine h.zero i q h2 fun ⟨s, a1, a2, a3, a4⟩ => h3 ⟨s, by rw [hc]; exact hlt s a1 a2, ?_⟩
      rw [(settle_ent f s).1, (settle_ent f s).2]
      exact ⟨a2, a3, a4⟩
  · rw [hl, hs]
    exact (lowC_congr _ _ fun s _ => (settle_ent f s).1).symm
  · rw [hc, hs]
/-- settle changes what is in no slot -/
theorem settle_dat (h : Pre f) (t : Nat) : dat (settleF f) t = dat f t := by
  obtain ⟨hc, _⟩ := settle_cnt h.ok
  have hle := top_le h.ok
  have ho := (settle_sound h).ok
  unfold dat oldA oldN
  rw [hc, (settle_ent f t).1, (settle_ent f t).2]
  by_cases h1 : t < topC (slotsF f) 0
  · rw [if_pos h1, if_pos h1, if_pos (show t < cnt f by omega), if_pos (show t < cnt f by omega)]
    rcases h.ok.ent t (by omega) with q | q
    · rw [q.1]; rfl
    · exact cut_congr fun i a1 a2 => settle_out f (by omega)
  · rw [if_neg h1, if_neg h1]
    by_cases h2 : t < cnt f
    · rw [if_pos h2, if_pos h2]
      rcases h.ok.ent t h2 with q | q
      · rw [q.1]; rfl
      · exact absurd (slots_lt_top f t (slotsTo_iff.2 ⟨h2, q.1⟩)) h1
    · rw [if_neg h2, if_neg h2]; rfl
/-- Clear, ahead of settle -/
theorem clear_pre (h : Pre f) {s : Nat} (hs : s < cnt f) (hn : 0 < lenN f s) : Pre (lst (zap f s) s 0 0) ∧ ∀ t, dat (lst (zap f s) s 0 0) t = if t = s then [] else dat f t := by
  have hsm := zap_same h.ok hs hn
  have hent := h.ok.ent s hs
  have hfit := h.ok.fit hs
  have hc : cnt (lst (zap f s) s 0 0) = cnt f := (lst_cnt _ _ _ _).trans hsm.cnt
  have hself := lst_at (zap f s) s 0 0 (by omega) (by omega)
  have hoth : ∀ t, t ≠ s → t < cnt f → atN (lst (zap f s) s 0 0) t = atN f t ∧ lenN (lst (zap f s) s 0 0) t = lenN f t := fun t h1 h2 =>
    ⟨(lst_other _ s 0 0 h1).1.trans (hsm.ent h2).1, (lst_other _ s 0 0 h1).2.trans (hsm.ent h2).2⟩
  have hbig : ∀ i, 16 + 4 * cnt f ≤ i → lst (zap f s) s 0 0 i = if atN f s ≤ i ∧ i < atN f s + lenN f s then 0 else f i := fun i hi => by
    rw [lst_out _ _ _ _ (by omega)]
    exact upd_zero f _ _ i
  refine ⟨⟨(hsm.ok h.ok).lst0 s, fun a b h1 h2 hne h3 h4 => ?_, fun i h1 h2 h3 => ?_, fun i => ?_⟩, fun t => ?_⟩
  · rw [hc] at h1 h2
    have ha : a ≠ s := fun e => by subst e; rw [hself.2] at h3; omega
    have hb : b ≠ s := fun e => by subst e; rw [hself.2] at h4; omega
    rw [(hoth a ha h1).1, (hoth a ha h1).2, (hoth b hb h2).1, (hoth b hb h2).2]
    rw [(hoth a ha h1).2] at h3
    rw [(hoth b hb h2).2] at h4
    exact h.dis a b h1 h2 hne h3 h4
  · rw [hc] at h1
    rw [hbig i h1]
    split
    · rfl
    · rename_i hnot
      refine h.zero i h1 h2 fun ⟨t, a1, a2, a3, a4⟩ => h3 ⟨t, by rw [hc]; exact a1, ?_⟩
      have ht : t ≠ s := fun e => by subst e; exact hnot ⟨a3, a4⟩
      rw [(hoth t ht a1).1, (hoth t ht a1).2]
      exact ⟨a2, a3, a4⟩
  · exact wr_small (fun i => wr_small (fun i => upd_small h.small _ (zeros_small _) i) _ _ _ i) _ _ _ i
  · unfold dat oldA oldN
    rw [hc]
    by_cases e : t = s
    · subst e
      rw [if_pos rfl, if_pos hs, if_pos hs, hself.1, hself.2]
      rfl
    · rw [if_neg e]
      by_cases ht : t < cnt f
      · rw [if_pos ht, if_pos ht, if_pos ht, if_pos ht, (hoth t e ht).1, (hoth t e ht).2]
        rcases h.ok.ent t ht with q | q
        · rw [q.1]; rfl
        · refine cut_congr fun i a1 a2 => ?_
          rw [hbig i (by omega), if_neg]
          have := h.dis s t hs ht (fun z => e z.symm) hn q.1
          omega
      · rw [if_neg ht, if_neg ht, if_neg ht, if_neg ht]; rfl
theorem clr_sound (h : Sound f) (s : Nat) : Sound (clrF f s) ∧ ∀ t, dat (clrF f s) t = if t = s then [] else dat f t := by
  unfold clrF
  by_cases hn : 0 < oldN f s
  · rw [if_pos hn]
    have hs : s < cnt f := by
      unfold oldN at hn
      split at hn
      · assumption
      · omega
    unfold oldN at hn
    rw [if_pos hs] at hn
    obtain ⟨h1, h2⟩ := clear_pre h.toPre hs hn
    exact ⟨settle_sound h1, fun t => (settle_dat h1 t).trans (h2 t)⟩
  · rw [if_neg hn]
    refine ⟨h, fun t => ?_⟩
    by_cases e : t = s
    · subst e
      rw [if_pos rfl]
      have := dat_length f t
      exact List.eq_nil_of_length_eq_zero (by omega)
    · rw [if_neg e]
/-- head bytes stay -/
theorem clr_head (f : Nat → Nat) (s : Nat) {i : Nat} (hi : i < 12) (ho : Ok f) : clrF f s i = f i := by
  unfold clrF
  split
  · rename_i hn
    have hs : s < cnt f := by
      unfold oldN at hn
      split at hn
      · assumption
      · omega
    unfold oldN at hn
    rw [if_pos hs] at hn
    have := ho.ent s hs
    show settleF _ i = f i
    rw [settle_out _ (.inl hi), lst_out _ _ _ _ (by omega)]
    exact upd_out f _ _ (by omega)
  · rfl
end
end Go.Proofs.Ytkknfccfgmflmaa
