/- Records: what is written is read, what is read is written so. Conditions: none. -/
import Derived.Test.YthbaoljghofkoaaRecP
namespace Go.Proofs.Ythbaoljghofkoaa
open NumMath
set_option linter.unusedVariables false
set_option linter.unusedSimpArgs false

def tailL (r : RecP) : List Nat := if chgs r.kind = true then chgL r.chg else if r.kind = 8 then tabL r else []
theorem bodyL_eq (r : RecP) : bodyL r = headB r ++ tailL r := rfl
theorem okR_none8 {r : RecP} (h : okR r = true) (h8 : r.kind ≠ 8) : r.txns = [] ∧ r.pages = [] := by
  unfold okR at h
  simp only [Bool.and_eq_true, Bool.or_eq_true, decide_eq_true_iff, beq_iff_eq] at h
  have := h.1.1.2
  rcases this with z | z
  · exact absurd z h8
  · exact ⟨List.eq_nil_of_length_eq_zero (by omega), List.eq_nil_of_length_eq_zero (by omega)⟩
theorem okR_noChg {r : RecP} (h : okR r = true) (hc : chgs r.kind = false) : r.chg = chgZ0 := by
  unfold okR okC at h
  simp only [Bool.and_eq_true, Bool.or_eq_true, decide_eq_true_iff, beq_iff_eq, hc, Bool.false_eq_true, false_or, Bool.not_eq_true'] at h
  obtain ⟨⟨⟨h1, h2⟩, h3⟩, h4⟩ := h
  obtain ⟨⟨⟨⟨g1, g2⟩, g3⟩, g4⟩, ⟨⟨g5, g6⟩, g7⟩, g8⟩ := h3
  obtain ⟨kind, txn, prev, next, ⟨page, slot, had, has, before, after⟩, txns, pages⟩ := r
  simp only at *
  subst g5 g6 g7 g8
  have e1 : before = [] := List.eq_nil_of_length_eq_zero (by simpa using g3)
  have e2 : after = [] := List.eq_nil_of_length_eq_zero (by simpa using g4)
  subst e1 e2
  rfl
theorem restP_enc {r : RecP} (h : okR r = true) (hf : r.Fits) : restP r.kind (tailL r) = some ((r.chg, r.txns, r.pages), []) := by
  obtain ⟨l1, l2, l3, l4⟩ := okR_lens h
  unfold restP tailL
  by_cases hc : chgs r.kind = true
  · rw [if_pos hc, if_pos hc]
    have h8 : r.kind ≠ 8 := fun e => by rw [e] at hc; exact absurd hc (by decide)
    obtain ⟨e1, e2⟩ := okR_none8 h h8
    have := chgP_enc [] hf.chg (show r.chg.before.length < 256 by omega) (by omega)
    rw [List.append_nil] at this
    rw [this, e1, e2]
    rfl
  · rw [if_neg hc, if_neg hc]
    have hz := okR_noChg h (by simpa using hc)
    by_cases h8 : r.kind = 8
    · rw [if_pos h8, if_pos h8]
      have := tabP_enc [] hf (show r.txns.length < 256 by omega) (by omega)
      rw [List.append_nil] at this
      rw [this, hz]
      rfl
    · rw [if_neg h8, if_neg h8]
      obtain ⟨e1, e2⟩ := okR_none8 h h8
      rw [e1, e2, hz]
theorem readP_enc {r : RecP} (h : okR r = true) (hf : r.Fits) : readP (encL r) = some r := by
  have hs := sumB_lt (bodyL_small hf)
  unfold readP
  rw [if_pos (by rw [encL_length]; omega)]
  have hd : (encL r).drop 2 = putF 4 (sumB (bodyL r)) ++ bodyL r := by
    unfold encL
    rw [List.append_assoc, List.drop_append_of_le_length (by rw [putF_length]; omega), List.drop_of_length_le (by rw [putF_length]; omega), List.nil_append]
  rw [hd, numP_put _ (show sumB (bodyL r) < 256 ^ 4 from hs)]
  simp only [Option.bind_some]
  rw [if_pos trivial, bodyL_eq, headP_enc _ hf]
  simp only [Option.bind_some]
  rw [restP_enc h hf]
  simp only [Option.bind_some]
  rw [if_pos ⟨trivial, h⟩]
theorem restP_inv {k : Nat} {l : List Nat} {c : ChgP} {t : List TxP} {d : List DirP} (a b e : Nat) (h : restP k l = some ((c, t, d), [])) (hs : Small l) : l = tailL ⟨k, a, b, e, c, t, d⟩ := by
  unfold restP at h
  unfold tailL
  by_cases hc : chgs k = true
  · rw [if_pos hc] at h
    rw [if_pos hc]
    obtain ⟨⟨c', l1⟩, e1, h⟩ := bind_some_inv h
    injection h with h
    injection h with h1 h2
    injection h1 with h1 _
    subst h1
    simp only at h2
    subst h2
    have := chgP_inv e1 hs
    rwa [List.append_nil] at this
  · rw [if_neg hc] at h
    rw [if_neg hc]
    by_cases h8 : k = 8
    · rw [if_pos h8] at h
      rw [if_pos h8]
      obtain ⟨⟨⟨t', d'⟩, l1⟩, e1, h⟩ := bind_some_inv h
      injection h with h
      injection h with h1 h2
      injection h1 with _ h1
      injection h1 with h0 h1
      simp only at h0 h1 h2
      subst h0 h1 h2
      have := tabP_inv e1 hs
      rwa [List.append_nil] at this
    · rw [if_neg h8] at h
      rw [if_neg h8]
      injection h with h
      injection h with _ h2
theorem readP_inv {l : List Nat} {r : RecP} (h : readP l = some r) (hs : Small l) : okR r = true ∧ l.drop 2 = putF 4 (sumB (bodyL r)) ++ bodyL r ∧ 2 ≤ l.length := by
  unfold readP at h
  split at h
  · rename_i h2
    obtain ⟨⟨s, body⟩, e1, h⟩ := bind_some_inv h
    split at h
    · rename_i hsum
      obtain ⟨⟨⟨a, b, c, d⟩, l1⟩, e2, h⟩ := bind_some_inv h
      obtain ⟨⟨⟨ch, t, p⟩, l2⟩, e3, h⟩ := bind_some_inv h
      split at h
      · rename_i hok
        injection h with h
        subst h
        obtain ⟨hl2, hok⟩ := hok
        simp only at hl2 hsum e3 e2
        subst hl2
        have hs2 := small_drop hs 2
        obtain ⟨g1, -⟩ := numP_inv e1 hs2
        have hsb : Small body := by rw [g1] at hs2; exact small_right hs2
        have g2 := headP_inv e2 hsb
        have hs1 : Small l1 := by rw [g2] at hsb; exact small_right hsb
        have g3 := restP_inv b c d e3 hs1
        have hb : body = bodyL ⟨a, b, c, d, ch, t, p⟩ := by rw [g2, bodyL_eq, ← g3]; rfl
        exact ⟨hok, by rw [g1, hsum, hb], h2⟩
      · cases h
    · cases h
  · cases h
theorem enc_readP {l : List Nat} {r : RecP} (h : readP l = some r) (hs : Small l) (hn : decN l = l.length) : l = encL r := by
  obtain ⟨_, hd, h2⟩ := readP_inv h hs
  have hl : (bodyL r).length + 6 = l.length := by
    have := congrArg List.length hd
    rw [List.length_drop, List.length_append, putF_length] at this
    omega
  have ht := put_getL (l.take 2) fun x hx => hs x (List.mem_of_mem_take hx)
  rw [List.length_take, Nat.min_eq_left h2, show getL (l.take 2) = l.length from hn, ← hl] at ht
  unfold encL
  rw [ht, List.append_assoc, ← hd, List.take_append_drop]
theorem encL_decN {r : RecP} (h : okR r = true) (rest : List Nat) : decN (encL r ++ rest) = (encL r).length := by
  have hl := (bodyL_length h).2
  rw [encL_length]
  unfold decN encL
  rw [List.append_assoc, List.append_assoc, List.take_append_of_le_length (by rw [putF_length]; omega), List.take_of_length_le (by rw [putF_length]; omega), getL_put]
  omega
end Go.Proofs.Ythbaoljghofkoaa
