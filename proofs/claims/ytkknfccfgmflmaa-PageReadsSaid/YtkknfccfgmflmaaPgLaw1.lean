/- page: its calls, whatever is asked; the plain page. Conditions: the page lies there, as its own calls leave it. -/
import Derived.Test.YtkknfccfgmflmaaPgInv3
namespace Go.Proofs.Ytkknfccfgmflmaa
open Go.ChangeShapes Go.WideShapes Go.ChangeAt Go.RowKit
open NumMath
set_option linter.unusedVariables false
set_option linter.unusedSimpArgs false
set_option maxRecDepth 20000

def topN (n : Nat → Nat) : Nat → Nat
  | 0 => 0
  | k + 1 => if 0 < n k then k + 1 else topN n k
theorem topN_cong {n m : Nat → Nat} (k : Nat) (h : ∀ t, t < k → n t = m t) : topN n k = topN m k := by
  induction k with
  | zero => rfl
  | succ k ih =>
    show (if 0 < n k then k + 1 else topN n k) = if 0 < m k then k + 1 else topN m k
    rw [h k (by omega), ih fun t ht => h t (by omega)]
theorem slotsTo_top (f : Nat → Nat) (k : Nat) : topC (slotsTo f k) 0 = topN (lenN f) k := by
  induction k with
  | zero => rfl
  | succ k ih =>
    rw [slotsTo_next]
    show _ = if 0 < lenN f k then k + 1 else topN (lenN f) k
    by_cases h : 0 < lenN f k
    · rw [if_pos h, if_pos h, topC_snoc]
    · rw [if_neg h, if_neg h, List.append_nil, ih]
theorem topN_more {n : Nat → Nat} {k : Nat} (j : Nat) (h : ∀ t, k ≤ t → n t = 0) : topN n (k + j) = topN n k := by
  induction j with
  | zero => rfl
  | succ j ih =>
    show (if 0 < n (k + j) then k + j + 1 else topN n (k + j)) = _
    rw [if_neg (by have := h (k + j) (by omega); omega), ih]
section
variable {f : Nat → Nat}
theorem oldN_in {s : Nat} (h : s < cnt f) : oldN f s = lenN f s := if_pos h
theorem oldN_out {s : Nat} (h : cnt f ≤ s) : oldN f s = 0 := if_neg (by omega)
theorem cnt_top (h : Sound f) : cnt f = topN (oldN f) 40 := by
  have h40 := h.ok.c40
  have e1 := topN_more (n := oldN f) (k := cnt f) (40 - cnt f) fun t ht => oldN_out ht
  rw [show cnt f + (40 - cnt f) = 40 by omega] at e1
  rw [e1, topN_cong (cnt f) fun t ht => oldN_in ht, ← slotsTo_top]
  exact h.top
theorem free_eq (h : Sound f) : freeI f = 448 - ((16 + 4 * topN (oldN f) 40 : Nat) : Int) - (totN (oldN f) 40 : Nat) := by
  unfold freeI
  rw [used_tot h.ok.c40]
  conv => lhs; rw [cnt_top h]
theorem dat_old {s : Nat} (hn : oldN f s = 0) : dat f s = [] := List.eq_nil_of_length_eq_zero (by rw [dat_length]; exact hn)
end
/-! the plain calls -/
def setP (f : Nat → Nat) (s : Int) (d : List Nat) : Nat × (Nat → Nat) :=
  if 0 ≤ s ∧ s < 40 ∧ 1 ≤ d.length ∧ d.length ≤ 64 then (if 448 < 16 + 4 * needC f s.toNat + (usedF f - oldN f s.toNat) + d.length then (92, f) else (0, setR f s.toNat d)) else (91, f)
def clearP (f : Nat → Nat) (s : Int) : Bool × (Nat → Nat) := if 0 ≤ s then (decide (0 < oldN f s.toNat), clrF f s.toNat) else (false, f)
def getP (f : Nat → Nat) (s : Int) : List Nat := if 0 ≤ s then dat f s.toNat else []
theorem old_le_used {f : Nat → Nat} (h : Sound f) (s : Nat) : oldN f s ≤ usedF f := by
  by_cases hs : s < 40
  · have := (used_clr h hs).1
    omega
  · rw [oldN_out (by have := h.ok.c40; omega)]
    omega
theorem setP_sound {f : Nat → Nat} (h : Sound f) (s : Int) {d : List Nat} (hd : Small d) : Sound (setP f s d).2 ∧ (∀ i, i < 12 → (setP f s d).2 i = f i) ∧
    (∀ t : Nat, dat (setP f s d).2 t = if (setP f s d).1 = 0 ∧ (t : Int) = s then d else dat f t) ∧ ((setP f s d).1 = 0 ∨ (setP f s d).1 = 91 ∨ (setP f s d).1 = 92) ∧ ((setP f s d).1 ≠ 0 → (setP f s d).2 = f) := by
  unfold setP
  by_cases h1 : 0 ≤ s ∧ s < 40 ∧ 1 ≤ d.length ∧ d.length ≤ 64
  · rw [if_pos h1]
    obtain ⟨a1, a2, a3, a4⟩ := h1
    obtain ⟨k, rfl⟩ := Int.eq_ofNat_of_zero_le a1
    rw [Int.toNat_natCast]
    by_cases h2 : 448 < 16 + 4 * needC f k + (usedF f - oldN f k) + d.length
    · rw [if_pos h2]
      exact ⟨h, fun _ _ => rfl, fun t => (if_neg (fun q => by cases q.1)).symm, .inr (.inr rfl), fun _ => rfl⟩
    · rw [if_neg h2]
      obtain ⟨-, b1, b2, b3⟩ := set_sound h (by omega : k < 40) a3 a4 hd (by omega)
      refine ⟨b1, b3, fun t => (b2 t).trans ?_, .inl rfl, fun q => absurd rfl q⟩
      by_cases e : t = k
      · rw [if_pos e, if_pos ⟨rfl, by omega⟩]
      · rw [if_neg e, if_neg fun q => e (by omega)]
  · rw [if_neg h1]
    exact ⟨h, fun _ _ => rfl, fun t => (if_neg (fun q => by cases q.1)).symm, .inr (.inl rfl), fun _ => rfl⟩
theorem clearP_sound {f : Nat → Nat} (h : Sound f) (s : Int) : Sound (clearP f s).2 ∧ (∀ i, i < 12 → (clearP f s).2 i = f i) ∧ (∀ t : Nat, dat (clearP f s).2 t = if (t : Int) = s then [] else dat f t) := by
  unfold clearP
  by_cases h1 : 0 ≤ s
  · rw [if_pos h1]
    obtain ⟨k, rfl⟩ := Int.eq_ofNat_of_zero_le h1
    rw [Int.toNat_natCast]
    obtain ⟨a, b⟩ := clr_sound h k
    refine ⟨a, fun i hi => clr_head f k hi h.ok, fun t => (b t).trans ?_⟩
    by_cases e : t = k
    · rw [if_pos e, if_pos (by omega)]
    · rw [if_neg e, if_neg (by omega)]
  · rw [if_neg h1]
    exact ⟨h, fun _ _ => rfl, fun t => (if_neg (by omega)).symm⟩
theorem stamp_sound {f : Nat → Nat} (h : Sound f) (v : Nat) : Sound (wr f 0 8 v) ∧ (∀ i, 8 ≤ i → wr f 0 8 v i = f i) ∧ (∀ t, dat (wr f 0 8 v) t = dat f t) := by
  have ho : ∀ i, 8 ≤ i → wr f 0 8 v i = f i := fun i hi => wr_out f 0 8 v (by omega)
  have hs : SameList f (wr f 0 8 v) := fun i a b c => ho i (by omega)
  have hc := hs.cnt
  refine ⟨⟨⟨hs.ok h.ok, fun t u h1 h2 hne h3 h4 => ?_, fun i h1 h2 h3 => ?_, wr_small h.small _ _ _⟩, ?_, ?_⟩, ho, fun t => ?_⟩
  · rw [hc] at h1 h2
    rw [(hs.ent h1).2] at h3 ⊢
    rw [(hs.ent h2).2] at h4 ⊢
    rw [(hs.ent h1).1, (hs.ent h2).1]
    exact h.dis t u h1 h2 hne h3 h4
  · rw [hc] at h1
    rw [ho i (by omega)]
    refine h.zero i h1 h2 fun ⟨t, b1, b2, b3, b4⟩ => h3 ⟨t, by rw [hc]; exact b1, ?_⟩
    rw [(hs.ent b1).1, (hs.ent b1).2]
    exact ⟨b2, b3, b4⟩
  · have h1 : lowN (wr f 0 8 v) = lowN f := rd_congr fun i b1 b2 => ho i (by omega)
    rw [h1, h.low, hs.slots]
    exact (lowC_congr _ _ fun t ht => (hs.ent (slotsTo_mem ht).1).1).symm
  · rw [hc, h.top, hs.slots]
  · unfold dat oldA oldN
    rw [hc]
    by_cases ht : t < cnt f
    · rw [if_pos ht, if_pos ht, if_pos ht, if_pos ht, (hs.ent ht).1, (hs.ent ht).2]
      rcases h.ok.ent t ht with q | q
      · rw [q.1]; rfl
      · exact cut_congr fun i a b => ho i (by omega)
    · rw [if_neg ht, if_neg ht, if_neg ht, if_neg ht]; rfl
theorem new_cnt (n : Nat) : cnt (newF n) = 0 ∧ lowN (newF n) = 448 := by
  constructor
  · have : cnt (newF n) = cnt zeroF := rd_congr fun i h1 h2 => by
      unfold newF
      rw [wr_out _ _ _ _ (by omega), wr_out _ _ _ _ (by omega)]
    rw [this]
    rfl
  · exact rd_wr _ _ _ _ (by omega)
theorem new_big (n : Nat) {i : Nat} (hi : 16 ≤ i) : newF n i = 0 := by
  unfold newF
  rw [wr_out _ _ _ _ (by omega), wr_out _ _ _ _ (by omega)]
  rfl
theorem new_sound (n : Nat) : Sound (newF n) ∧ ∀ t, dat (newF n) t = [] := by
  obtain ⟨h1, h2⟩ := new_cnt n
  have hs : slotsF (newF n) = [] := by unfold slotsF; rw [h1]; rfl
  refine ⟨⟨⟨⟨by omega, fun s hs => by omega⟩, fun s t q => by omega, fun i q1 q2 _ => new_big n (by omega), fun i => wr_small (wr_small (fun i => by show 0 < 256; omega) _ _ _) _ _ _ i⟩, ?_, ?_⟩, fun t => ?_⟩
  · rw [hs, h2]; rfl
  · rw [hs, h1]; rfl
  · exact List.eq_nil_of_length_eq_zero (by rw [dat_length]; exact oldN_out (by omega))
section
variable {w : World} {gp : Nat} {f : Nat → Nat}
theorem set_any (h : PgAt w gp f) (hS : Sound f) (s : Int) (A : Option Addr) (c : Nat) (d : List Nat) (hb : BytesIn w (fun b => b ≠ gp) A d) :
    Calls Try.prog 14 #[.pointer (some ⟨gp, 0, none⟩), .int .i64 s, .slice A d.length c] w fun e w' => e = .returned (.int .u16 ((setP f s d).1 : Nat)) ∧ PgPost gp (setP f s d).2 w w' := by
  unfold setP
  by_cases h1 : 0 ≤ s ∧ s < 40 ∧ 1 ≤ d.length ∧ d.length ≤ 64
  · rw [if_pos h1]
    obtain ⟨a1, a2, a3, a4⟩ := h1
    obtain ⟨k, rfl⟩ := Int.eq_ofNat_of_zero_le a1
    rw [Int.toNat_natCast]
    refine (set_good h hS.ok k (by omega) A c d a3 a4 hb (old_le_used hS k) (fun hf hne => (set_sound hS (by omega) a3 a4 hb.2 hf).1 hne)).mono ?_
    rintro e w' ⟨p1, p2⟩
    by_cases h2 : 448 < 16 + 4 * needC f k + (usedF f - oldN f k) + d.length
    · rw [if_pos h2]
      obtain ⟨rfl, rfl⟩ := p1 h2
      exact ⟨rfl, PgPost.refl h⟩
    · rw [if_neg h2]
      obtain ⟨rfl, hp⟩ := p2 (by omega)
      exact ⟨rfl, hp⟩
  · rw [if_neg h1]
    refine (set_bad s A c d.length w h1 _).mono ?_
    rintro e w' ⟨rfl, rfl⟩
    exact ⟨rfl, PgPost.refl h⟩
theorem clear_any (h : PgAt w gp f) (hS : Sound f) (s : Int) :
    Calls Try.prog 22 #[.pointer (some ⟨gp, 0, none⟩), .int .i64 s] w fun e w' => e = .returned (.bool (clearP f s).1) ∧ PgPost gp (clearP f s).2 w w' := by
  unfold clearP
  by_cases h1 : 0 ≤ s
  · rw [if_pos h1]
    obtain ⟨k, rfl⟩ := Int.eq_ofNat_of_zero_le h1
    rw [Int.toNat_natCast]
    exact clear_slot h hS.ok k
  · rw [if_neg h1]
    refine (clear_no h s 0 (data_out h s (by omega))).mono ?_
    rintro e w' ⟨rfl, rfl⟩
    exact ⟨rfl, PgPost.refl h⟩
theorem get_page (h : PgAt w gp f) (hS : Sound f) (s : Int) :
    Calls Try.prog 13 #[.pointer (some ⟨gp, 0, none⟩), .int .i64 s] w (GetPost (getP f s) w) := by
  unfold getP
  by_cases h1 : 0 ≤ s
  · rw [if_pos h1]
    obtain ⟨k, rfl⟩ := Int.eq_ofNat_of_zero_le h1
    rw [Int.toNat_natCast]
    exact getd_any h k _ _ (fit_old hS.ok k).1 (data_slot h hS.ok k)
  · rw [if_neg h1]
    exact getd_any h s 0 0 (by omega) (data_out h s (by omega))
end
end Go.Proofs.Ytkknfccfgmflmaa
