/- Plain law of SealTorn: what opens is the one page or the other. Conditions: as stated. -/
import Derived.Test.YtkmfacmigonbcaaSealMath
namespace Go.Proofs.Ytkmfacmigonbcaa
open NumMath
set_option linter.unusedVariables false
set_option linter.unusedSimpArgs false

/-- a sector that is of the one page or of the other, if its marks are alike -/
def LikeS (s t : Nat) (x y : List Nat) (z : List Nat) : Prop := ∀ f, goodS f z = true → (f = s ∧ bodyS z = x) ∨ (f = t ∧ bodyS z = y)
theorem goodS_is {f : Nat} {b : List Nat} (h : goodS f b = true) : b.length = 128 ∧ markA b = f ∧ markB b = f := by
  unfold goodS at h
  simp only [Bool.and_eq_true, decide_eq_true_iff] at h
  exact h
theorem like_own {s t : Nat} {x y : List Nat} (hs : s < 18446744073709551616) (hx : x.length = 112) : LikeS s t x y (sectS s x) := fun f h => by
  have h2 := (goodS_is h).2.1
  rw [sectS_markA hs hx] at h2
  exact .inl ⟨h2.symm, sectS_body hx⟩
theorem like_other {s t : Nat} {x y : List Nat} (ht : t < 18446744073709551616) (hy : y.length = 112) : LikeS s t x y (sectS t y) := fun f h => by
  have h2 := (goodS_is h).2.1
  rw [sectS_markA ht hy] at h2
  exact .inr ⟨h2.symm, sectS_body hy⟩
theorem like_torn {s t : Nat} {x y : List Nat} (hne : s ≠ t) (hs : s < 18446744073709551616) (ht : t < 18446744073709551616) (hx : x.length = 112) (hy : y.length = 112) (n : Nat) (hn : n ≤ 128) :
    LikeS s t x y ((sectS t y).take n ++ (sectS s x).drop n) := fun f h => by
  obtain ⟨hl, hA, hB⟩ := goodS_is h
  have lx := sectS_length (st := s) hx
  have ly := sectS_length (st := t) hy
  have lt : ((sectS t y).take n).length = n := by simp [ly]; omega
  unfold markA at hA
  unfold markB at hB
  rw [if_pos hl] at hA hB
  rcases Nat.lt_or_ge 8 n with h8 | h8
  · have eA : ((sectS t y).take n ++ (sectS s x).drop n).take 8 = (sectS t y).take 8 := by
      rw [List.take_append_of_le_length (by omega), List.take_take, Nat.min_eq_left (by omega)]
    have hA' := sectS_markA ht hy
    unfold markA at hA'
    rw [if_pos ly] at hA'
    rw [eA, hA'] at hA
    rcases Nat.lt_or_ge 120 n with h120 | h120
    · right
      refine ⟨hA.symm, ?_⟩
      have : bodyS ((sectS t y).take n ++ (sectS s x).drop n) = bodyS (sectS t y) := by
        unfold bodyS
        rw [List.drop_append_of_le_length (by omega), List.take_append_of_le_length (by simp [ly]; omega), List.drop_take, List.take_take, Nat.min_eq_left (by omega)]
      rw [this, sectS_body hy]
    · exfalso
      have eB : ((sectS t y).take n ++ (sectS s x).drop n).drop 120 = (sectS s x).drop 120 := by
        rw [List.drop_append, lt, List.drop_of_length_le (by omega), List.nil_append, List.drop_drop]
        congr 1
        omega
      rw [eB, sectS_drop hx, List.take_of_length_le (by rw [putF_length]; omega), put8_back hs] at hB
      omega
  · left
    have eB : ((sectS t y).take n ++ (sectS s x).drop n).drop 120 = (sectS s x).drop 120 := by
      rw [List.drop_append, lt, List.drop_of_length_le (by omega), List.nil_append, List.drop_drop]
      congr 1
      omega
    rw [eB, sectS_drop hx, List.take_of_length_le (by rw [putF_length]; omega), put8_back hs] at hB
    refine ⟨hB.symm, ?_⟩
    have : bodyS ((sectS t y).take n ++ (sectS s x).drop n) = bodyS (sectS s x) := by
      unfold bodyS
      rw [List.drop_append, lt, List.drop_of_length_le (by omega), List.nil_append, List.drop_drop]
      congr 2
      omega
    rw [this, sectS_body hx]
theorem like_same {s t : Nat} {x y : List Nat} (ht : t < 18446744073709551616) (hy : y.length = 112) (n : Nat) : LikeS s t x y ((sectS t y).take n ++ (sectS t y).drop n) := by
  rw [List.take_append_drop]; exact like_other ht hy
/-- four such sectors: the one page or the other -/
theorem torn_opens {s t : Nat} (hne : s ≠ t) {X Y : List Nat} (hX : X.length = 448) (hY : Y.length = 448) {ls : List (List Nat)} (h4 : ls.length = 4)
    (h : ∀ j (hj : j < ls.length), LikeS s t (chunkOf X j) (chunkOf Y j) ls[j]) (ho : openOk ls = true) : (openN ls = s ∧ openB ls = X) ∨ (openN ls = t ∧ openB ls = Y) := by
  match ls, h4 with
  | [a, b, c, d], _ =>
    have hg : ∀ z ∈ [a, b, c, d], goodS (firstS [a, b, c, d]) z = true := by
      unfold openOk at ho
      rw [Bool.and_eq_true, List.all_eq_true] at ho
      exact ho.2
    have hB : openB [a, b, c, d] = bodyS a ++ bodyS b ++ bodyS c ++ bodyS d := by
      unfold openB
      rw [if_pos ho]
      simp [flS]
    have hN : openN [a, b, c, d] = firstS [a, b, c, d] := by unfold openN; rw [if_pos ho]
    rw [hB, hN]
    have qa := h 0 (by simp) _ (hg a (by simp))
    have qb := h 1 (by simp) _ (hg b (by simp))
    have qc := h 2 (by simp) _ (hg c (by simp))
    have qd := h 3 (by simp) _ (hg d (by simp))
    simp only [List.getElem_cons_zero, List.getElem_cons_succ] at qa qb qc qd
    generalize firstS [a, b, c, d] = f at *
    rcases qa with ⟨rfl, ea⟩ | ⟨rfl, ea⟩
    · rcases qb with ⟨_, eb⟩ | ⟨e, _⟩
      · rcases qc with ⟨_, ec⟩ | ⟨e, _⟩
        · rcases qd with ⟨_, ed⟩ | ⟨e, _⟩
          · exact .inl ⟨rfl, by rw [ea, eb, ec, ed]; exact chunks_flat hX⟩
          · exact absurd e hne
        · exact absurd e hne
      · exact absurd e hne
    · rcases qb with ⟨e, _⟩ | ⟨_, eb⟩
      · exact absurd e.symm hne
      · rcases qc with ⟨e, _⟩ | ⟨_, ec⟩
        · exact absurd e.symm hne
        · rcases qd with ⟨e, _⟩ | ⟨_, ed⟩
          · exact absurd e.symm hne
          · exact .inr ⟨rfl, by rw [ea, eb, ec, ed]; exact chunks_flat hY⟩
end Go.Proofs.Ytkmfacmigonbcaa
