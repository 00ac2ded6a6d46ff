/- page: compact. Conditions: none; no program in sight. -/
import Derived.Test.YtkknfccfgmflmaaPgInv
namespace Go.Proofs.Ytkknfccfgmflmaa
open Go.ChangeShapes Go.WideShapes Go.ChangeAt Go.RowKit
open NumMath
set_option linter.unusedVariables false
set_option linter.unusedSimpArgs false

theorem zapL_zero (f : Nat → Nat) (l : List Nat) (g : Nat → Nat) {i : Nat} (h : g i = 0) : zapL f l g i = 0 := by
  induction l generalizing g with
  | nil => exact h
  | cons x l ih =>
    refine ih _ ?_
    rw [upd_zero]
    split
    · rfl
    · exact h
theorem zapL_in (f : Nat → Nat) (l : List Nat) (g : Nat → Nat) {i s : Nat} (hs : s ∈ l) (h1 : atN f s ≤ i) (h2 : i < atN f s + lenN f s) : zapL f l g i = 0 := by
  induction l generalizing g with
  | nil => cases hs
  | cons x l ih =>
    rcases List.mem_cons.1 hs with rfl | h
    · refine zapL_zero f l _ ?_
      rw [upd_zero, if_pos ⟨h1, h2⟩]
    · exact ih _ h
theorem zapL_out (f : Nat → Nat) (l : List Nat) (g : Nat → Nat) {i : Nat} (h : ∀ s ∈ l, ¬ (atN f s ≤ i ∧ i < atN f s + lenN f s)) : zapL f l g i = g i := by
  induction l generalizing g with
  | nil => rfl
  | cons x l ih =>
    refine (ih _ fun s hs => h s (List.mem_cons_of_mem _ hs)).trans ?_
    rw [upd_zero, if_neg (h x (List.mem_cons_self ..))]
def dat0 (f : Nat → Nat) (s : Nat) : List Nat := cut f (atN f s) (lenN f s)
theorem gatL_eq {f : Nat → Nat} (h : Pre f) (l : List Nat) (hp : l.Pairwise (· < ·)) (hl : ∀ s ∈ l, s < cnt f ∧ 0 < lenN f s) (g : Nat → Nat) (hg : ∀ s ∈ l, ∀ i, atN f s ≤ i → i < atN f s + lenN f s → g i = f i) : gatL f l g = l.map (dat0 f) := by
  induction l generalizing g with
  | nil => rfl
  | cons x l ih =>
    rw [List.pairwise_cons] at hp
    have hx := hl x (List.mem_cons_self ..)
    show cut g (atN f x) (lenN f x) :: gatL f l _ = dat0 f x :: l.map (dat0 f)
    congr 1
    · exact cut_congr fun i h1 h2 => hg x (List.mem_cons_self ..) i h1 h2
    · refine ih hp.2 (fun s hs => hl s (List.mem_cons_of_mem _ hs)) _ fun s hs i h1 h2 => ?_
      have hne : x ≠ s := by have := hp.1 s hs; omega
      have hs' := hl s (List.mem_cons_of_mem _ hs)
      have hd := h.dis x s hx.1 hs'.1 hne hx.2 hs'.2
      rw [upd_zero, if_neg (by omega)]
      exact hg s (List.mem_cons_of_mem _ hs) i h1 h2
def sumLen (l : List (Nat × List Nat)) : Nat := (l.map fun x => x.2.length).sum
theorem sumLen_cons (x : Nat × List Nat) (l : List (Nat × List Nat)) : sumLen (x :: l) = x.2.length + sumLen l := by unfold sumLen; rw [List.map_cons, List.sum_cons]
/-- what laying them leaves -/
structure LayR (base a : Nat) (g : Nat → Nat) (l : List (Nat × List Nat)) (r : Nat × (Nat → Nat)) : Prop where
  sum : r.1 + sumLen l = a
  head : ∀ i, i < 16 → r.2 i = g i
  other : ∀ t, 20 + 4 * t ≤ base → (∀ x ∈ l, x.1 ≠ t) → atN r.2 t = atN g t ∧ lenN r.2 t = lenN g t
  rest : ∀ i, base ≤ i → (i < r.1 ∨ a ≤ i) → r.2 i = g i
  put : ∀ x ∈ l, r.1 ≤ atN r.2 x.1 ∧ atN r.2 x.1 + x.2.length ≤ a ∧ lenN r.2 x.1 = x.2.length ∧ cut r.2 (atN r.2 x.1) x.2.length = x.2
  dis : ∀ x ∈ l, ∀ y ∈ l, x.1 ≠ y.1 → atN r.2 x.1 + x.2.length ≤ atN r.2 y.1 ∨ atN r.2 y.1 + y.2.length ≤ atN r.2 x.1
  full : ∀ i, r.1 ≤ i → i < a → ∃ x ∈ l, atN r.2 x.1 ≤ i ∧ i < atN r.2 x.1 + x.2.length
  small : (∀ i, g i < 256) → (∀ x ∈ l, Small x.2) → ∀ i, r.2 i < 256
theorem lay_ok (c : Nat) (hc : c ≤ 40) : ∀ (l : List (Nat × List Nat)) (a : Nat) (g : Nat → Nat), (∀ x ∈ l, x.1 < c ∧ x.2.length ≤ 64) → l.Pairwise (fun x y => x.1 ≠ y.1) → 16 + 4 * c + sumLen l ≤ a → a ≤ 448 → LayR (16 + 4 * c) a g l (l.foldl layS (a, g))
  | [], a, g, _, _, h1, h2 => by
    refine ⟨rfl, fun _ _ => rfl, fun _ _ _ => ⟨rfl, rfl⟩, fun _ _ _ => rfl, ?_, ?_, ?_, fun h _ => h⟩
    · intro x hx; cases hx
    · intro x hx; cases hx
    · intro i h3 h4
      have h3' : a ≤ i := h3
      omega
  | x :: l, a, g, hx, hp, h1, h2 => by
    rw [List.pairwise_cons] at hp
    rw [sumLen_cons] at h1
    have hx0 := hx x (List.mem_cons_self ..)
    have ih := lay_ok c hc l (a - x.2.length) (lst (upd g (a - x.2.length) x.2) x.1 (a - x.2.length) x.2.length) (fun y hy => hx y (List.mem_cons_of_mem _ hy)) hp.2 (by omega) (by omega)
    have hst : (x :: l).foldl layS (a, g) = l.foldl layS (a - x.2.length, lst (upd g (a - x.2.length) x.2) x.1 (a - x.2.length) x.2.length) := rfl
    rw [hst]
    generalize l.foldl layS (a - x.2.length, lst (upd g (a - x.2.length) x.2) x.1 (a - x.2.length) x.2.length) = r at *
    have hself := lst_at (upd g (a - x.2.length) x.2) x.1 (a - x.2.length) x.2.length (by omega) (by omega)
    have hxr := ih.other x.1 (by omega) fun y hy => fun e => hp.1 y hy e.symm
    rw [hself.1, hself.2] at hxr
    have hlow : ∀ i, i < 16 ∨ 20 + 4 * x.1 ≤ i → i < a - x.2.length ∨ a ≤ i → lst (upd g (a - x.2.length) x.2) x.1 (a - x.2.length) x.2.length i = g i := fun i q1 q2 => by
      rw [lst_out _ _ _ _ (by omega)]
      exact upd_out g _ _ (by omega)
    have hsum := ih.sum
    have hcut : cut r.2 (a - x.2.length) x.2.length = x.2 := by
      rw [cut_congr (g := upd g (a - x.2.length) x.2) fun i q1 q2 => by
        rw [ih.rest i (by omega) (by omega)]
        exact lst_out _ _ _ _ (by omega)]
      exact cut_upd g _ _
    refine ⟨by rw [sumLen_cons]; omega, fun i hi => ?_, fun t htc ht => ?_, fun i q1 q2 => ?_, fun y hy => ?_, fun y hy z hz hne => ?_, fun i q1 q2 => ?_, fun hg hs => ?_⟩
    · rw [ih.head i hi]
      exact hlow i (.inl hi) (by omega)
    · have h3 := ih.other t htc fun y hy => ht y (List.mem_cons_of_mem _ hy)
      have h4 := lst_other (upd g (a - x.2.length) x.2) x.1 (a - x.2.length) x.2.length (s' := t) (fun e => ht x (List.mem_cons_self ..) e.symm)
      have h5 : atN (upd g (a - x.2.length) x.2) t = atN g t ∧ lenN (upd g (a - x.2.length) x.2) t = lenN g t := by
        exact ⟨rd_congr fun i _ _ => upd_out g _ _ (by omega), rd_congr fun i _ _ => upd_out g _ _ (by omega)⟩
      exact ⟨h3.1.trans (h4.1.trans h5.1), h3.2.trans (h4.2.trans h5.2)⟩
    · rw [ih.rest i q1 (by omega)]
      exact hlow i (.inr (by omega)) (by omega)
    · rcases List.mem_cons.1 hy with rfl | hy
      · rw [hxr.1]
        exact ⟨by omega, by omega, hxr.2, hcut⟩
      · obtain ⟨p1, p2, p3, p4⟩ := ih.put y hy
        exact ⟨p1, by omega, p3, p4⟩
    · rcases List.mem_cons.1 hy with ey | hy2
      · rcases List.mem_cons.1 hz with ez | hz2
        · rw [ey, ez] at hne
          exact absurd rfl hne
        · obtain ⟨p1, p2, p3, p4⟩ := ih.put z hz2
          right
          rw [ey, hxr.1]
          exact p2
      · rcases List.mem_cons.1 hz with ez | hz2
        · obtain ⟨p1, p2, p3, p4⟩ := ih.put y hy2
          left
          rw [ez, hxr.1]
          exact p2
        · exact ih.dis y hy2 z hz2 hne
    · rcases Nat.lt_or_ge i (a - x.2.length) with q | q
      · obtain ⟨y, hy, h3⟩ := ih.full i q1 q
        exact ⟨y, List.mem_cons_of_mem _ hy, h3⟩
      · refine ⟨x, List.mem_cons_self .., ?_⟩
        rw [hxr.1]
        omega
    · refine ih.small (fun i => ?_) fun y hy => hs y (List.mem_cons_of_mem _ hy)
      exact wr_small (fun i => wr_small (fun i => upd_small hg _ (hs x (List.mem_cons_self ..)) i) _ _ _ i) _ _ _ i
theorem sumLen_take (l : List (Nat × List Nat)) {k : Nat} (hk : k < l.length) : sumLen (l.take k) + l[k].2.length ≤ sumLen l := by
  induction l generalizing k with
  | nil => simp at hk
  | cons x l ih =>
    cases k with
    | zero => rw [List.take_zero, sumLen_cons]; show sumLen [] + x.2.length ≤ _; unfold sumLen; simp
    | succ k =>
      have := ih (k := k) (by simpa using hk)
      rw [List.take_succ_cons, sumLen_cons, sumLen_cons, List.getElem_cons_succ]
      omega
theorem used_sum (f : Nat → Nat) (k : Nat) : (((slotsTo f k).map fun s => (dat0 f s).length)).sum = usedTo f k := by
  induction k with
  | zero => rfl
  | succ k ih =>
    rw [slotsTo_next, List.map_append, List.sum_append, ih]
    show _ = usedTo f k + lenN f k
    congr 1
    split
    · show (cut f (atN f k) (lenN f k)).length + 0 = _
      rw [cut_length, Nat.add_zero]
    · rw [List.map_nil, List.sum_nil]; omega
section
variable {f : Nat → Nat}
theorem pairs_eq (h : Pre f) : pairsF f = (slotsF f).map fun s => (s, dat0 f s) := by
  unfold pairsF
  rw [gatL_eq h (slotsF f) (slotsTo_pair f _) (fun s hs => slotsTo_mem hs) f (fun _ _ _ _ _ => rfl), List.zip_map_right]
  apply List.ext_getElem
  · simp
  · intro i h1 h2
    simp
theorem pairs_sum (h : Pre f) : sumLen (pairsF f) = usedF f := by
  rw [pairs_eq h]
  unfold sumLen
  rw [List.map_map]
  exact used_sum f (cnt f)
/-- what compact leaves, ahead of settle -/
theorem laid_pre (h : Pre f) (hu : 16 + 4 * cnt f + usedF f ≤ 448) :
    (∀ k, k < (slotsF f).length → (layL ((pairsF f).take k) (zapL f (slotsF f) f)).1 ≤ 448 ∧ lenN f ((slotsF f).getD k 0) ≤ (layL ((pairsF f).take k) (zapL f (slotsF f) f)).1) ∧
    Pre (laidF f) ∧ (∀ t, dat (laidF f) t = dat f t) ∧ (∀ i, i < 12 → laidF f i = f i) ∧ cnt (laidF f) = cnt f ∧ 448 - usedF f ≤ lowC (laidF f) (slotsF (laidF f)) 448 := by
  have hsum := pairs_sum h
  have hpe := pairs_eq h
  have hmem : ∀ x ∈ pairsF f, x.1 < cnt f ∧ 0 < lenN f x.1 ∧ x.2 = dat0 f x.1 := fun x hx => by
    rw [hpe] at hx
    obtain ⟨s, hs, rfl⟩ := List.mem_map.1 hx
    exact ⟨(slotsTo_mem hs).1, (slotsTo_mem hs).2, rfl⟩
  have hx64 : ∀ x ∈ pairsF f, x.1 < cnt f ∧ x.2.length ≤ 64 := fun x hx => by
    obtain ⟨a1, a2, a3⟩ := hmem x hx
    rw [a3]
    exact ⟨a1, by show (cut f _ _).length ≤ 64; rw [cut_length]; exact (h.ok.fit a1).2.2⟩
  have hpw : (pairsF f).Pairwise (fun x y => x.1 ≠ y.1) := by
    rw [hpe, List.pairwise_map]
    exact (slotsTo_pair f _).imp fun {a b} q => by show a ≠ b; omega
  have hin : ∀ s, s < cnt f → 0 < lenN f s → (s, dat0 f s) ∈ pairsF f := fun s h1 h2 => by
    rw [hpe]
    exact List.mem_map.2 ⟨s, slotsTo_iff.2 ⟨h1, h2⟩, rfl⟩
  have hc40 := h.ok.c40
  refine ⟨fun k hk => ?_, ?_⟩
  · have hkl : k < (pairsF f).length := by rw [hpe, List.length_map]; exact hk
    have h1 := sumLen_take (pairsF f) hkl
    have hR := lay_ok (cnt f) hc40 ((pairsF f).take k) 448 (zapL f (slotsF f) f) (fun x hx => hx64 x (List.mem_of_mem_take hx)) (hpw.sublist (List.take_sublist ..)) (by omega) (Nat.le_refl _)
    have h2 := hR.sum
    have h3 : (pairsF f)[k].2.length = lenN f ((slotsF f).getD k 0) := by
      rw [List.getD_eq_getElem?_getD, List.getElem?_eq_getElem hk, Option.getD_some]
      simp only [hpe, List.getElem_map]
      exact cut_length _ _ _
    rw [h3] at h1
    have h4 : (layL ((pairsF f).take k) (zapL f (slotsF f) f)).1 + sumLen ((pairsF f).take k) = 448 := h2
    omega
  · have hR := lay_ok (cnt f) hc40 (pairsF f) 448 (zapL f (slotsF f) f) hx64 hpw (by omega) (Nat.le_refl _)
    have hz : SameList f (zapL f (slotsF f) f) := zapL_same h.ok (fun s hs => slotsTo_mem hs) (fun i _ _ _ => rfl)
    have hlf : laidF f = ((pairsF f).foldl layS (448, zapL f (slotsF f) f)).2 := rfl
    have hsm := hR.small (fun i => by
      by_cases q : ∃ s ∈ slotsF f, atN f s ≤ i ∧ i < atN f s + lenN f s
      · obtain ⟨s, a1, a2, a3⟩ := q
        rw [zapL_in f _ f a1 a2 a3]
        omega
      · rw [zapL_out f _ f fun s hs z => q ⟨s, hs, z⟩]
        exact h.small i) (fun x hx => by rw [(hmem x hx).2.2]; exact cut_small h.small _ _)
    have hrsum := hR.sum
    rw [hsum] at hrsum
    have hput := hR.put
    have hdis := hR.dis
    have hfull := hR.full
    have hrest := hR.rest
    have hother := hR.other
    have hhead := hR.head
    rw [← hlf] at hsm hput hdis hfull hrest hother hhead
    generalize ((pairsF f).foldl layS (448, zapL f (slotsF f) f)).1 = r1 at *
    clear hR hlf
    have hcnt : cnt (laidF f) = cnt f := (rd_congr fun i _ _ => hhead i (by omega)).trans hz.cnt
    have hyes : ∀ s, s < cnt f → 0 < lenN f s → r1 ≤ atN (laidF f) s ∧ atN (laidF f) s + lenN f s ≤ 448 ∧ lenN (laidF f) s = lenN f s ∧ cut (laidF f) (atN (laidF f) s) (lenN f s) = dat0 f s := fun s h1 h2 => by
      have := hput _ (hin s h1 h2)
      simp only [dat0, cut_length] at this
      exact this
    have hno : ∀ s, s < cnt f → lenN f s = 0 → lenN (laidF f) s = 0 ∧ atN (laidF f) s = 0 := fun s h1 h2 => by
      have h3 := hother s (by omega) fun x hx e => by
        have := (hmem x hx).2.1
        rw [e] at this
        omega
      have h4 := hz.ent h1
      have h5 := h.ok.ent s h1
      rw [h3.1, h3.2, h4.1, h4.2]
      omega
    have hlen : ∀ s, s < cnt f → lenN (laidF f) s = lenN f s := fun s h1 => by
      rcases Nat.eq_zero_or_pos (lenN f s) with q | q
      · rw [(hno s h1 q).1, q]
      · exact (hyes s h1 q).2.2.1
    refine ⟨⟨⟨by rw [hcnt]; exact hc40, fun s hs => ?_⟩, fun s t h1 h2 hne h3 h4 => ?_, fun i h1 h2 h3 => ?_, hsm⟩, fun t => ?_, fun i hi => ?_, hcnt, ?_⟩
    · rw [hcnt] at hs ⊢
      rcases Nat.eq_zero_or_pos (lenN f s) with q | q
      · exact .inl (hno s hs q)
      · obtain ⟨a1, a2, a3, a4⟩ := hyes s hs q
        have := h.ok.fit hs
        rw [a3]
        exact .inr ⟨q, this.2.2, by omega, a2⟩
    · rw [hcnt] at h1 h2
      rw [hlen s h1] at h3 ⊢
      rw [hlen t h2] at h4 ⊢
      have := hdis _ (hin s h1 h3) _ (hin t h2 h4) hne
      simp only [dat0, cut_length] at this
      exact this
    · rw [hcnt] at h1
      rcases Nat.lt_or_ge i r1 with q | q
      · rw [hrest i h1 (.inl q)]
        by_cases y : ∃ s ∈ slotsF f, atN f s ≤ i ∧ i < atN f s + lenN f s
        · obtain ⟨s, a1, a2, a3⟩ := y
          exact zapL_in f _ f a1 a2 a3
        · rw [zapL_out f _ f fun s hs z => y ⟨s, hs, z⟩]
          exact h.zero i h1 h2 fun ⟨s, b1, b2, b3⟩ => y ⟨s, slotsTo_iff.2 ⟨b1, b2⟩, b3⟩
      · obtain ⟨x, hx, a1, a2⟩ := hfull i q h2
        obtain ⟨b1, b2, b3⟩ := hmem x hx
        refine absurd ⟨x.1, by rw [hcnt]; exact b1, by rw [hlen x.1 b1]; exact b2, a1, ?_⟩ h3
        rw [hlen x.1 b1]
        rw [b3] at a2
        simp only [dat0, cut_length] at a2
        exact a2
    · unfold dat oldA oldN
      rw [hcnt]
      by_cases ht : t < cnt f
      · rw [if_pos ht, if_pos ht, if_pos ht, if_pos ht, hlen t ht]
        rcases Nat.eq_zero_or_pos (lenN f t) with q | q
        · rw [q]; rfl
        · exact (hyes t ht q).2.2.2
      · rw [if_neg ht, if_neg ht, if_neg ht, if_neg ht]; rfl
    · rw [hhead i (by omega)]
      refine zapL_out f _ f fun s hs z => ?_
      have h1 := slotsTo_mem hs
      have := h.ok.ent s h1.1
      omega
    · refine lowC_ge _ _ _ _ (by omega) fun s hs => ?_
      have h1 := slotsTo_mem hs
      rw [hcnt] at h1
      rw [hlen s h1.1] at h1
      have := (hyes s h1.1 h1.2).1
      omega
/-- compact -/
theorem comp_sound (h : Pre f) (hu : 16 + 4 * cnt f + usedF f ≤ 448) : Sound (compF f) ∧ (∀ t, dat (compF f) t = dat f t) ∧ (∀ i, i < 12 → compF f i = f i) ∧ cnt (compF f) ≤ cnt f ∧ 448 - usedF f ≤ lowN (compF f) := by
  obtain ⟨-, h1, h2, h3, h4, h5⟩ := laid_pre h hu
  refine ⟨settle_sound h1, fun t => (settle_dat h1 t).trans (h2 t), fun i hi => (settle_out _ (.inl hi)).trans (h3 i hi), ?_, ?_⟩
  · show cnt (settleF _) ≤ _
    rw [(settle_cnt h1.ok).1, ← h4]
    exact top_le h1.ok
  · show _ ≤ lowN (settleF _)
    rw [(settle_cnt h1.ok).2]
    exact h5
end
end Go.Proofs.Ytkknfccfgmflmaa
