/- The log, plain: Open. Conditions: none; no program in sight. -/
import Derived.Test.YtkganajbilnanaaWWalT
namespace Go.Proofs.Ytkganajbilnanaa
open NumMath
set_option linter.unusedVariables false
set_option linter.unusedSimpArgs false

def decR (l : List Nat) : Option RecP := if 27 ≤ l.length ∧ 1 ≤ decN l ∧ decN l ≤ l.length then readP (l.take (decN l)) else none
def parseR : Nat → List Nat → List RecP
  | 0, _ => []
  | f + 1, l => match decR l with
    | none => []
    | some r => r :: parseR f (l.drop (decN l))
/-- the records with which bytes begin -/
def recsOf (l : List Nat) : List RecP := parseR l.length l
theorem decR_some {l : List Nat} {r : RecP} (h : decR l = some r) : 27 ≤ l.length ∧ 1 ≤ decN l ∧ decN l ≤ l.length ∧ readP (l.take (decN l)) = some r := by
  unfold decR at h
  split at h
  · rename_i q
    exact ⟨q.1, q.2.1, q.2.2, h⟩
  · cases h
theorem parseR_fuel : ∀ (n f : Nat) (l : List Nat), l.length ≤ n → l.length ≤ f → parseR f l = parseR l.length l := by
  intro n
  induction n with
  | zero =>
    intro f l h1 h2
    have : l = [] := List.eq_nil_of_length_eq_zero (by omega)
    subst this
    cases f with
    | zero => rfl
    | succ f => simp [parseR, decR]
  | succ n ih =>
    intro f l h1 h2
    cases hd : decR l with
    | none =>
      cases f <;> cases hl : l.length <;> simp [parseR, hd]
    | some r =>
      obtain ⟨q1, q2, q3, q4⟩ := decR_some hd
      obtain ⟨f', rfl⟩ : ∃ f', f = f' + 1 := ⟨f - 1, by omega⟩
      obtain ⟨g, hg⟩ : ∃ g, l.length = g + 1 := ⟨l.length - 1, by omega⟩
      rw [hg]
      simp only [parseR, hd]
      have hdl : (l.drop (decN l)).length ≤ g := by rw [List.length_drop]; omega
      rw [ih f' _ (by omega) (by omega), ih g _ (by omega) hdl]
theorem recsOf_some {l : List Nat} {r : RecP} (h : decR l = some r) : recsOf l = r :: recsOf (l.drop (decN l)) := by
  obtain ⟨q1, q2, q3, q4⟩ := decR_some h
  unfold recsOf
  obtain ⟨g, hg⟩ : ∃ g, l.length = g + 1 := ⟨l.length - 1, by omega⟩
  rw [hg]
  simp only [parseR, h]
  rw [parseR_fuel g g _ (by rw [List.length_drop]; omega) (by rw [List.length_drop]; omega)]
theorem recsOf_none {l : List Nat} (h : decR l = none) : recsOf l = [] := by
  unfold recsOf
  cases hl : l.length <;> simp [parseR, h]
/-- what is read has just these bytes -/
theorem decR_enc {l : List Nat} {r : RecP} (h : decR l = some r) (hs : Small l) : okR r = true ∧ decN l = (encL r).length ∧ l = encL r ++ l.drop (decN l) := by
  obtain ⟨q1, q2, q3, q4⟩ := decR_some h
  have hst : Small (l.take (decN l)) := fun x hx => hs x (List.mem_of_mem_take hx)
  have hok := (readP_inv q4 hst).1
  have h2 := (readP_inv q4 hst).2.2
  have hdn : decN (l.take (decN l)) = decN l := by
    unfold decN at h2 ⊢
    rw [List.length_take] at h2
    rw [List.take_take, Nat.min_eq_left (by omega)]
  have he := enc_readP q4 hst (by rw [hdn, List.length_take]; omega)
  refine ⟨hok, ?_, ?_⟩
  · have := congrArg List.length he
    rw [List.length_take] at this
    omega
  · rw [← he, List.take_append_drop]
theorem decR_of_enc {r : RecP} (h : okR r = true) (hf : r.Fits) (rest : List Nat) : decR (encL r ++ rest) = some r := by
  obtain ⟨d1, d2⟩ := dec_enc h hf rest
  have := (encL_len h).1
  unfold decR
  rw [if_pos (by rw [d1, List.length_append]; omega)]
  exact d2
theorem recsOf_enc {rs : List RecP} (h : GoodR rs) (rest : List Nat) : recsOf (rs.flatMap encL ++ rest) = rs ++ recsOf rest := by
  induction rs with
  | nil => rfl
  | cons r rs ih =>
    obtain ⟨h1, h2⟩ := h r (by simp)
    rw [List.flatMap_cons, List.append_assoc, recsOf_some (decR_of_enc h1 h2 _), (dec_enc h1 h2 _).1, List.drop_left' rfl, ih fun x hx => h x (by simp [hx])]
    rfl
/-- the sectors of an area, as they were written last -/
def areaP (D : DevP) (p n : Nat) : List (List Nat) := (List.range n).map fun i => (D.read 0 ((p + i : Nat) : Int)).1
def openR (D : DevP) : List RecP := recsOf (readL (areaP D (2 + (findP D).1.area * ((D.size 0 - 2) / 2)) ((D.size 0 - 2) / 2)))
def openL (D : DevP) : LogP := ⟨(findP D).1, (D.size 0 - 2) / 2, (findP D).2, (openR D).flatMap encL, offs 0 (openR D), ((openR D).flatMap encL).length⟩
def openD (D : DevP) : DevP := makeP D (2 + (findP D).1.area * ((D.size 0 - 2) / 2)) ((D.size 0 - 2) / 2) (layOf ((openR D).flatMap encL))
/-- is there a log -/
def opens (D : DevP) : Bool := decide (18 ≤ D.size 0) && decide (0 < (findP D).1.stamp)
end Go.Proofs.Ytkganajbilnanaa
