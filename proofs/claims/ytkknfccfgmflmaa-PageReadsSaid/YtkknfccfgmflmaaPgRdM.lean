/- page: what the document's Read finds, as plain numbers. Conditions: none; no program in sight. -/
import Derived.Test.YtkknfccfgmflmaaPgL5
namespace Go.Proofs.Ytkknfccfgmflmaa
open Go.ChangeShapes Go.WideShapes Go.ChangeAt Go.RowKit
open NumMath
set_option linter.unusedVariables false
set_option linter.unusedSimpArgs false

/-- the document's page behind the first k slots -/
def rdR (f : Nat → Nat) (k : Nat) : RP := ⟨rd f 0 8, rd f 8 4, fun t => if t < k then atN f t else 0, fun t => if t < k then lenN f t else 0, fun i => if tkn f k i = true then f i else 0⟩
/-- the bytes taken within a slot -/
def tk2 (f : Nat → Nat) (k a q i : Nat) : Bool := tkn f k i || (decide (a ≤ i) && decide (i < q))
theorem tk2_start (f : Nat → Nat) (k a : Nat) : tk2 f k a a = tkn f k := by
  funext i
  unfold tk2
  rcases Nat.lt_or_ge i a with z | z
  · rw [decide_eq_false (by omega : ¬ a ≤ i), Bool.false_and, Bool.or_false]
  · rw [decide_eq_false (by omega : ¬ i < a), Bool.and_false, Bool.or_false]
theorem tk2_end (f : Nat → Nat) (k : Nat) : tk2 f k (atN f k) (atN f k + lenN f k) = tkn f (k + 1) := by
  rw [tkn_next]
  rfl
theorem tk2_self (f : Nat → Nat) (k a q : Nat) : tk2 f k a q q = tkn f k q := by
  unfold tk2
  rw [decide_eq_false (by omega : ¬ q < q), Bool.and_false, Bool.or_false]
theorem tk2_next (f : Nat → Nat) (k a q : Nat) (h : a ≤ q) : (fun j => tk2 f k a q j || decide (q = j)) = tk2 f k a (q + 1) := by
  funext i
  unfold tk2
  rw [Bool.or_assoc]
  congr 1
  rw [Bool.eq_iff_iff, Bool.or_eq_true, Bool.and_eq_true, Bool.and_eq_true, decide_eq_true_iff, decide_eq_true_iff, decide_eq_true_iff, decide_eq_true_iff]
  omega
theorem up1_next (g : Nat → Nat) (k : Nat) : up1 (fun t => if t < k then g t else 0) k (g k) = fun t => if t < k + 1 then g t else 0 := by
  funext t
  unfold up1
  by_cases e : t = k
  · subst e
    rw [if_pos rfl, if_pos (by omega)]
  · rw [if_neg e]
    dsimp only
    by_cases h : t < k
    · rw [if_pos h, if_pos (by omega)]
    · rw [if_neg h, if_neg (by omega)]
theorem mask_next (f : Nat → Nat) (k a q : Nat) (h : a ≤ q) : up1 (fun i => if tk2 f k a q i = true then f i else 0) q (f q) = fun i => if tk2 f k a (q + 1) i = true then f i else 0 := by
  funext i
  unfold up1
  have e := congrFun (tk2_next f k a q h) i
  rw [← e]
  by_cases h1 : i = q
  · subst h1
    rw [if_pos rfl, if_pos (by simp)]
  · have h2 : decide (q = i) = false := decide_eq_false (fun z => h1 z.symm)
    rw [if_neg h1, h2, Bool.or_false]
theorem rdR_zero (f : Nat → Nat) : rdR f 0 = { rpZero (rd f 8 4) with L := rd f 0 8 } := by
  unfold rdR rpZero
  simp only [Nat.not_lt_zero, if_false, tkn_zero, Bool.false_eq_true]
theorem rdR_fit {f : Nat → Nat} (hs : ∀ i, f i < 256) {n : Nat} (h : ∀ s, s < n → goodS f n s) : RFit (rdR f n) := by
  refine ⟨rd_lt hs 0 8, rd_lt hs 8 4, fun s hs2 => ?_, fun i => ?_⟩
  · show (if s < n then atN f s else 0) + (if s < n then lenN f s else 0) ≤ 448 ∧ (if s < n then lenN f s else 0) ≤ 64
    by_cases hsn : s < n
    · rw [if_pos hsn, if_pos hsn]
      rcases h s hsn with z | z <;> omega
    · rw [if_neg hsn, if_neg hsn]; omega
  · show (if _ then f i else 0) < 256
    split
    · exact hs i
    · omega
section
variable {f : Nat → Nat}
theorem rdR_toR (h : SoundP f) (hs : ∀ i, f i < 256) : rdR f (cnt f) = toR f := by
  refine RP.ext2 rfl rfl (fun s => rfl) (fun s => rfl) (fun i => ?_)
  show (if tkn f (cnt f) i = true then f i else 0) = if 16 + 4 * cnt f ≤ i ∧ i < 448 then f i else 0
  by_cases ht : tkn f (cnt f) i = true
  · rw [if_pos ht, if_pos]
    obtain ⟨s, h1, h2, h3⟩ := tkn_iff.1 ht
    rcases h.good s h1 with z | z <;> omega
  · rw [if_neg ht]
    by_cases hi : 16 + 4 * cnt f ≤ i ∧ i < 448
    · rw [if_pos hi]
      rcases h.zero i hi.1 hi.2 with z | z
      · exact absurd z ht
      · exact z.symm
    · rw [if_neg hi]
theorem rdR_yes (h : SoundP f) (hs : ∀ i, f i < 256) : bytesR (rdR f (cnt f)) = cut f 0 448 := by
  rw [rdR_toR h hs]
  exact bytes_to (h.toS hs)
theorem putF_inj {n a b : Nat} (ha : a < 256 ^ n) (hb : b < 256 ^ n) (h : putF n a = putF n b) : a = b := by
  have := congrArg getL h
  rw [getL_put, getL_put, Nat.mod_eq_of_lt ha, Nat.mod_eq_of_lt hb] at this
  exact this
theorem cut_eq {g : Nat → Nat} {a n : Nat} (h : cut f a n = cut g a n) {i : Nat} (h1 : a ≤ i) (h2 : i < a + n) : f i = g i := by
  have := congrArg (fun l => l[i - a]?) h
  simp only [cut, List.getElem?_map, List.getElem?_range (show i - a < n by omega), Option.map_some, Option.some.injEq] at this
  rw [show a + (i - a) = i by omega] at this
  exact this
theorem topN_has (n : Nat → Nat) (k : Nat) : topN n k = 0 ∨ 0 < n (topN n k - 1) := by
  induction k with
  | zero => exact .inl rfl
  | succ k ih =>
    by_cases h : 0 < n k
    · have e : topN n (k + 1) = k + 1 := if_pos h
      rw [e]
      exact .inr (by rw [Nat.add_sub_cancel]; exact h)
    · have e : topN n (k + 1) = topN n k := if_neg h
      rw [e]
      exact ih
theorem rdR_no (hc : cnt f ≤ 40) (hg : ∀ s, s < cnt f → goodS f (cnt f) s) (hs : ∀ i, f i < 256) (h : bytesR (rdR f (cnt f)) = cut f 0 448) : SoundP f := by
  obtain ⟨n, hn⟩ : ∃ n, cnt f = n := ⟨_, rfl⟩
  rw [hn] at hc hg h
  have hT := topN_le (rdR f n).S 40
  have hL := lowS_le (rdR f n) 40
  have s1 : cut f 0 448 = cut f 0 12 ++ (cut f 12 2 ++ (cut f 14 2 ++ cut f 16 432)) := by
    rw [show (448 : Nat) = 12 + (2 + (2 + 432)) from rfl, cut_add f 0, cut_add f (0 + 12), cut_add f (0 + 12 + 2)]
  have s2 : bytesR (rdR f n) = (putF 8 (rdR f n).L ++ putF 4 (rdR f n).N) ++ (putF 2 (topN (rdR f n).S 40) ++ (putF 2 (lowS (rdR f n) 40) ++ (entL (rdR f n) (topN (rdR f n).S 40) ++ cut (rdR f n).B (16 + 4 * topN (rdR f n).S 40) (448 - (16 + 4 * topN (rdR f n).S 40))))) := by
    unfold bytesR headL
    simp only [List.append_assoc]
  rw [s1, s2] at h
  obtain ⟨-, h2⟩ := List.append_inj h (by rw [List.length_append, putF_length, putF_length, cut_length])
  obtain ⟨e1, h3⟩ := List.append_inj h2 (by rw [putF_length, cut_length])
  obtain ⟨e2, h4⟩ := List.append_inj h3 (by rw [putF_length, cut_length])
  rw [← put_rd hs 12 2] at e1
  rw [← put_rd hs 14 2] at e2
  have hTn : topN (rdR f n).S 40 = n := (putF_inj (by omega) (rd_lt hs 12 2) e1).trans hn
  have hlow : lowS (rdR f n) 40 = lowN f := putF_inj (by omega) (rd_lt hs 14 2) e2
  rw [hTn] at h4
  have s3 : cut f 16 432 = cut f 16 (4 * n) ++ cut f (16 + 4 * n) (448 - (16 + 4 * n)) := by
    rw [← cut_add, show 4 * n + (448 - (16 + 4 * n)) = 432 by omega]
  rw [s3] at h4
  obtain ⟨-, h5⟩ := List.append_inj h4 (by rw [entL_length, cut_length])
  have hz : ∀ i, 16 + 4 * n ≤ i → i < 448 → tkn f n i = true ∨ f i = 0 := fun i a b => by
    have := cut_eq h5 (i := i) a (by omega)
    by_cases ht : tkn f n i = true
    · exact .inl ht
    · refine .inr ?_
      rw [← this]
      exact if_neg ht
  have hlo : ∀ k, k ≤ n → lowS (rdR f n) k = lowC f (slotsTo f k) 448 := fun k => by
    induction k with
    | zero => intro _; rfl
    | succ k ih =>
      intro hk
      rw [slotsTo_next]
      have eS : (rdR f n).S k = lenN f k := if_pos (by omega)
      have eO : (rdR f n).O k = atN f k := if_pos (by omega)
      show (if 0 < (rdR f n).S k then min (lowS (rdR f n) k) ((rdR f n).O k) else lowS (rdR f n) k) = _
      rw [eS, eO, ih (by omega)]
      by_cases hz : 0 < lenN f k
      · rw [if_pos hz, if_pos hz, lowC_snoc]
      · rw [if_neg hz, if_neg hz, List.append_nil]
  have hlm := lowS_more (r := rdR f n) (k := n) (40 - n) fun t ht => if_neg (by omega)
  rw [show n + (40 - n) = 40 by omega, hlo n (Nat.le_refl _)] at hlm
  refine ⟨by omega, by rw [hn]; exact hg, by rw [hn]; exact hz, ?_, ?_⟩
  · unfold slotsF
    rw [hn, ← hlm, hlow]
  · rw [hn]
    rcases topN_has (rdR f n).S 40 with z | z
    · exact .inl (hTn.symm.trans z)
    · rw [hTn] at z
      by_cases h0 : n = 0
      · exact .inl h0
      · have eS : (rdR f n).S (n - 1) = lenN f (n - 1) := if_pos (by omega)
        rw [eS] at z
        exact .inr z
end
theorem fL_part (l : List Nat) {a n : Nat} (h : a + n ≤ l.length) : (l.drop a).take n = cut (fL l) a n := by
  apply List.ext_getElem
  · rw [List.length_take, List.length_drop, cut_length]; omega
  · intro i h1 h2
    rw [cut_length] at h2
    simp only [cut, fL, List.getElem_take, List.getElem_drop, List.getElem_map, List.getElem_range]
    rw [List.getElem?_eq_getElem (by omega)]
    rfl
theorem fL_all (l : List Nat) : cut (fL l) 0 l.length = l := by
  rw [← fL_part l (by omega), List.drop_zero, List.take_length]
end Go.Proofs.Ytkknfccfgmflmaa
