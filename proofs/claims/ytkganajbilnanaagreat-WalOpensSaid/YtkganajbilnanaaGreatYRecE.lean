/- Records as bytes and back, plain. Conditions: none. -/
import Derived.Test.YtkganajbilnanaaGreatYRecD
import Derived.Laws.StructEq
import Derived.StillTailTactics
set_option linter.unusedVariables false
set_option linter.unusedSimpArgs false
namespace Go.Proofs.YtkganajbilnanaaGreat
open NumMath
theorem small_right {a b : List Nat} (h : Small (a ++ b)) : Small b := fun x hx => h x (List.mem_append_right _ hx)
theorem put_getL : ∀ (l : List Nat), Small l → putF l.length (getL l) = l
  | [], _ => rfl
  | b :: l, h => by
    have hb := h b (by simp)
    have ih := put_getL l fun x hx => h x (List.mem_cons_of_mem _ hx)
    show getL (b :: l) % 256 :: putF l.length (getL (b :: l) / 256) = b :: l
    have e : getL (b :: l) = b + 256 * getL l := rfl
    rw [e, show (b + 256 * getL l) % 256 = b by omega, show (b + 256 * getL l) / 256 = getL l by omega, ih]
theorem numP_put {m v : Nat} (rest : List Nat) (h : v < 256 ^ m) : numP m (putF m v ++ rest) = some (v, rest) := by
  have hl := putF_length m v
  rw [numP_some (by rw [List.length_append]; omega), List.take_append_of_le_length (by omega), List.take_of_length_le (by omega), List.drop_append_of_le_length (by omega), List.drop_of_length_le (by omega), getL_put, Nat.mod_eq_of_lt h, List.nil_append]
theorem numP_inv {m a : Nat} {l l' : List Nat} (h : numP m l = some (a, l')) (hs : Small l) : l = putF m a ++ l' ∧ a < 256 ^ m := by
  unfold numP at h
  split at h
  · rename_i hm
    injection h with h
    injection h with h1 h2
    subst h1
    subst h2
    refine ⟨?_, getL_take_lt hs m⟩
    have := put_getL (l.take m) fun x hx => hs x (List.mem_of_mem_take hx)
    rw [List.length_take, Nat.min_eq_left hm] at this
    rw [this, List.take_append_drop]
  · cases h
theorem bytP_len {d : List Nat} (rest : List Nat) (h : d.length < 256) : bytP (lenL d ++ rest) = some (d, rest) := by
  unfold lenL
  have h1 := numP_put (d ++ rest) (m := 1) (v := d.length) (by omega)
  rw [List.append_assoc]
  rw [numP_some (by rw [List.length_append, putF_length]; omega)] at h1
  injection h1 with h1
  injection h1 with h1 h2
  unfold bytP
  rw [h1, h2, if_pos ⟨by rw [List.length_append, putF_length]; omega, by rw [List.length_append]; omega⟩, List.take_append_of_le_length (Nat.le_refl _), List.take_length, List.drop_append_of_le_length (Nat.le_refl _), List.drop_length, List.nil_append]
theorem bytP_inv {l d r : List Nat} (h : bytP l = some (d, r)) (hs : Small l) : l = lenL d ++ r ∧ d.length < 256 := by
  unfold bytP at h
  split at h
  · rename_i hm
    injection h with h
    injection h with h1 h2
    have hn := numP_inv (numP_some hm.1) hs
    have hd : d.length = getL (l.take 1) := by rw [← h1, List.length_take]; omega
    refine ⟨?_, by rw [hd]; exact hn.2⟩
    unfold lenL
    rw [hd, List.append_assoc, ← h1, ← h2, List.take_append_drop]
    exact hn.1
  · cases h
theorem flags_enc (c : ChgP) : ¬ 3 < flagsN c ∧ (flagsN c % 2 == 1) = c.had ∧ (flagsN c / 2 % 2 == 1) = c.has ∧ flagsN c < 256 := by
  unfold flagsN
  cases c.had <;> cases c.has <;> simp
theorem chgP_enc {c : ChgP} (rest : List Nat) (hf : c.Fits) (h1 : c.before.length < 256) (h2 : c.after.length < 256) : chgP (chgL c ++ rest) = some (c, rest) := by
  obtain ⟨f1, f2, f3, f4⟩ := flags_enc c
  unfold chgP chgL
  simp only [List.append_assoc]
  rw [numP_put _ (show c.page < 256 ^ 4 from hf.1)]
  simp only [Option.bind_some]
  rw [numP_put _ (show c.slot < 256 ^ 2 from hf.2.1)]
  simp only [Option.bind_some]
  rw [numP_put _ (show flagsN c < 256 ^ 1 from f4)]
  simp only [Option.bind_some]
  rw [if_neg f1, bytP_len _ h1]
  simp only [Option.bind_some]
  rw [bytP_len _ h2]
  simp only [Option.bind_some]
  rw [f2, f3]
theorem bind_some_inv {α β : Type} {o : Option α} {f : α → Option β} {b : β} (h : o.bind f = some b) : ∃ a, o = some a ∧ f a = some b := by
  cases o with
  | none => cases h
  | some a => exact ⟨a, rfl, h⟩
theorem flags_dec {f : Nat} (h : ¬ 3 < f) (c : ChgP) (h1 : c.had = (f % 2 == 1)) (h2 : c.has = (f / 2 % 2 == 1)) : flagsN c = f := by
  unfold flagsN
  rw [h1, h2]
  rcases (show f = 0 ∨ f = 1 ∨ f = 2 ∨ f = 3 by omega) with rfl | rfl | rfl | rfl <;> rfl
theorem chgP_inv {l r : List Nat} {c : ChgP} (h : chgP l = some (c, r)) (hs : Small l) : l = chgL c ++ r := by
  unfold chgP at h
  obtain ⟨⟨a, l1⟩, e1, h⟩ := bind_some_inv h
  obtain ⟨⟨b, l2⟩, e2, h⟩ := bind_some_inv h
  obtain ⟨⟨f, l3⟩, e3, h⟩ := bind_some_inv h
  split at h
  · cases h
  rename_i hf
  obtain ⟨⟨x, l4⟩, e4, h⟩ := bind_some_inv h
  obtain ⟨⟨y, l5⟩, e5, h⟩ := bind_some_inv h
  injection h with h
  injection h with h1 h2
  obtain ⟨rfl, -⟩ := numP_inv e1 hs
  have s1 := small_right hs
  obtain ⟨rfl, -⟩ := numP_inv e2 s1
  have s2 := small_right s1
  obtain ⟨rfl, -⟩ := numP_inv e3 s2
  have s3 := small_right s2
  obtain ⟨rfl, -⟩ := bytP_inv e4 s3
  have s4 := small_right s3
  obtain ⟨rfl, -⟩ := bytP_inv e5 s4
  have hfl := flags_dec hf c (by rw [← h1]) (by rw [← h1])
  unfold chgL
  rw [hfl]
  subst h1
  subst h2
  simp only [List.append_assoc]
theorem txP_enc {x : TxP} (rest : List Nat) (hf : x.Fits) : txP (txL x ++ rest) = some (x, rest) := by
  unfold txP txL
  simp only [List.append_assoc]
  rw [numP_put _ (show x.txn < 256 ^ 4 from hf.1)]
  simp only [Option.bind_some]
  rw [numP_put _ (show x.last < 256 ^ 8 from hf.2.1)]
  simp only [Option.bind_some]
  rw [numP_put _ (show x.undo < 256 ^ 8 from hf.2.2.1)]
  simp only [Option.bind_some]
  rw [numP_put _ (show x.state < 256 ^ 1 from hf.2.2.2)]
  rfl
theorem txP_inv {l r : List Nat} {x : TxP} (h : txP l = some (x, r)) (hs : Small l) : l = txL x ++ r := by
  unfold txP at h
  obtain ⟨⟨a, l1⟩, e1, h⟩ := bind_some_inv h
  obtain ⟨⟨b, l2⟩, e2, h⟩ := bind_some_inv h
  obtain ⟨⟨f, l3⟩, e3, h⟩ := bind_some_inv h
  obtain ⟨⟨g, l4⟩, e4, h⟩ := bind_some_inv h
  injection h with h
  injection h with h1 h2
  obtain ⟨rfl, -⟩ := numP_inv e1 hs
  have s1 := small_right hs
  obtain ⟨rfl, -⟩ := numP_inv e2 s1
  have s2 := small_right s1
  obtain ⟨rfl, -⟩ := numP_inv e3 s2
  obtain ⟨rfl, -⟩ := numP_inv e4 (small_right s2)
  subst h1
  subst h2
  unfold txL
  simp only [List.append_assoc]
theorem dirP_enc {x : DirP} (rest : List Nat) (hf : x.Fits) : dirP (dirL x ++ rest) = some (x, rest) := by
  unfold dirP dirL
  simp only [List.append_assoc]
  rw [numP_put _ (show x.page < 256 ^ 4 from hf.1)]
  simp only [Option.bind_some]
  rw [numP_put _ (show x.first < 256 ^ 8 from hf.2)]
  rfl
theorem dirP_inv {l r : List Nat} {x : DirP} (h : dirP l = some (x, r)) (hs : Small l) : l = dirL x ++ r := by
  unfold dirP at h
  obtain ⟨⟨a, l1⟩, e1, h⟩ := bind_some_inv h
  obtain ⟨⟨b, l2⟩, e2, h⟩ := bind_some_inv h
  injection h with h
  injection h with h1 h2
  obtain ⟨rfl, -⟩ := numP_inv e1 hs
  obtain ⟨rfl, -⟩ := numP_inv e2 (small_right hs)
  subst h1
  subst h2
  unfold dirL
  simp only [List.append_assoc]
theorem txsK_enc (t : List TxP) (rest : List Nat) (hf : ∀ x ∈ t, x.Fits) : ∀ k, k ≤ t.length → txsK k (t.flatMap txL ++ rest) = some (t.take k, (t.drop k).flatMap txL ++ rest)
  | 0, _ => by rw [List.take_zero, List.drop_zero]; rfl
  | k + 1, hk => by
    show (txsK k _).bind _ = _
    rw [txsK_enc t rest hf k (by omega)]
    have hd : t.drop k = t[k] :: t.drop (k + 1) := List.drop_eq_getElem_cons hk
    simp only [Option.bind_some]
    rw [hd, List.flatMap_cons, List.append_assoc, txP_enc _ (hf _ (List.getElem_mem hk))]
    simp only [Option.bind_some]
    rw [List.take_succ_eq_append_getElem hk]
theorem dirsK_enc (t : List DirP) (rest : List Nat) (hf : ∀ x ∈ t, x.Fits) : ∀ k, k ≤ t.length → dirsK k (t.flatMap dirL ++ rest) = some (t.take k, (t.drop k).flatMap dirL ++ rest)
  | 0, _ => by rw [List.take_zero, List.drop_zero]; rfl
  | k + 1, hk => by
    show (dirsK k _).bind _ = _
    rw [dirsK_enc t rest hf k (by omega)]
    have hd : t.drop k = t[k] :: t.drop (k + 1) := List.drop_eq_getElem_cons hk
    simp only [Option.bind_some]
    rw [hd, List.flatMap_cons, List.append_assoc, dirP_enc _ (hf _ (List.getElem_mem hk))]
    simp only [Option.bind_some]
    rw [List.take_succ_eq_append_getElem hk]
theorem txsK_inv : ∀ (k : Nat) {l r : List Nat} {t : List TxP}, txsK k l = some (t, r) → Small l → l = t.flatMap txL ++ r ∧ t.length = k
  | 0, l, r, t, h, hs => by
    injection h with h
    injection h with h1 h2
    subst h1
    subst h2
    exact ⟨rfl, rfl⟩
  | k + 1, l, r, t, h, hs => by
    have h' : (txsK k l).bind (fun q => (txP q.2).bind fun x => some (q.1 ++ [x.1], x.2)) = some (t, r) := h
    obtain ⟨⟨t0, l0⟩, e1, h'⟩ := bind_some_inv h'
    obtain ⟨⟨x, l1⟩, e2, h'⟩ := bind_some_inv h'
    injection h' with h'
    injection h' with h1 h2
    obtain ⟨rfl, hl⟩ := txsK_inv k e1 hs
    obtain rfl := txP_inv e2 (small_right hs)
    subst h1
    subst h2
    exact ⟨by simp, by simp [hl]⟩
theorem dirsK_inv : ∀ (k : Nat) {l r : List Nat} {t : List DirP}, dirsK k l = some (t, r) → Small l → l = t.flatMap dirL ++ r ∧ t.length = k
  | 0, l, r, t, h, hs => by
    injection h with h
    injection h with h1 h2
    subst h1
    subst h2
    exact ⟨rfl, rfl⟩
  | k + 1, l, r, t, h, hs => by
    have h' : (dirsK k l).bind (fun q => (dirP q.2).bind fun x => some (q.1 ++ [x.1], x.2)) = some (t, r) := h
    obtain ⟨⟨t0, l0⟩, e1, h'⟩ := bind_some_inv h'
    obtain ⟨⟨x, l1⟩, e2, h'⟩ := bind_some_inv h'
    injection h' with h'
    injection h' with h1 h2
    obtain ⟨rfl, hl⟩ := dirsK_inv k e1 hs
    obtain rfl := dirP_inv e2 (small_right hs)
    subst h1
    subst h2
    exact ⟨by simp, by simp [hl]⟩
theorem tabP_enc {r : RecP} (rest : List Nat) (hf : r.Fits) (h1 : r.txns.length < 256) (h2 : r.pages.length < 256) : tabP (tabL r ++ rest) = some ((r.txns, r.pages), rest) := by
  unfold tabP tabL
  simp only [List.append_assoc]
  rw [numP_put _ (show r.txns.length < 256 ^ 1 from h1)]
  simp only [Option.bind_some]
  rw [txsK_enc r.txns _ hf.txns _ (Nat.le_refl _), List.take_length, List.drop_length]
  simp only [Option.bind_some, List.flatMap_nil, List.nil_append]
  rw [numP_put _ (show r.pages.length < 256 ^ 1 from h2)]
  simp only [Option.bind_some]
  rw [dirsK_enc r.pages _ hf.pages _ (Nat.le_refl _), List.take_length, List.drop_length]
  rfl
theorem tabP_inv {l r' : List Nat} {t : List TxP} {d : List DirP} (h : tabP l = some ((t, d), r')) (hs : Small l) : l = putF 1 t.length ++ t.flatMap txL ++ (putF 1 d.length ++ d.flatMap dirL) ++ r' := by
  unfold tabP at h
  obtain ⟨⟨a, l1⟩, e1, h⟩ := bind_some_inv h
  obtain ⟨⟨t0, l2⟩, e2, h⟩ := bind_some_inv h
  obtain ⟨⟨f, l3⟩, e3, h⟩ := bind_some_inv h
  obtain ⟨⟨d0, l4⟩, e4, h⟩ := bind_some_inv h
  injection h with h
  injection h with h1 h2
  injection h1 with h0 h1
  obtain ⟨rfl, -⟩ := numP_inv e1 hs
  have s1 := small_right hs
  obtain ⟨rfl, g1⟩ := txsK_inv _ e2 s1
  have s2 := small_right s1
  obtain ⟨rfl, -⟩ := numP_inv e3 s2
  obtain ⟨rfl, g2⟩ := dirsK_inv _ e4 (small_right s2)
  subst h0
  subst h1
  subst h2
  simp only at g1 g2
  rw [g1, g2]
  simp only [List.append_assoc]
theorem headP_enc {r : RecP} (rest : List Nat) (hf : r.Fits) : headP (headB r ++ rest) = some ((r.kind, r.txn, r.prev, r.next), rest) := by
  unfold headP headB
  simp only [List.append_assoc]
  rw [numP_put _ (show r.kind < 256 ^ 1 from hf.kind)]
  simp only [Option.bind_some]
  rw [numP_put _ (show r.txn < 256 ^ 4 from hf.txn)]
  simp only [Option.bind_some]
  rw [numP_put _ (show r.prev < 256 ^ 8 from hf.prev)]
  simp only [Option.bind_some]
  rw [numP_put _ (show r.next < 256 ^ 8 from hf.next)]
  rfl
theorem headP_inv {l r' : List Nat} {a b c d : Nat} (h : headP l = some ((a, b, c, d), r')) (hs : Small l) : l = putF 1 a ++ putF 4 b ++ putF 8 c ++ putF 8 d ++ r' := by
  unfold headP at h
  obtain ⟨⟨a', l1⟩, e1, h⟩ := bind_some_inv h
  obtain ⟨⟨b', l2⟩, e2, h⟩ := bind_some_inv h
  obtain ⟨⟨c', l3⟩, e3, h⟩ := bind_some_inv h
  obtain ⟨⟨d', l4⟩, e4, h⟩ := bind_some_inv h
  injection h with h
  injection h with h1 h2
  injection h1 with g1 h1
  injection h1 with g2 h1
  injection h1 with g3 g4
  obtain ⟨rfl, -⟩ := numP_inv e1 hs
  have s1 := small_right hs
  obtain ⟨rfl, -⟩ := numP_inv e2 s1
  have s2 := small_right s1
  obtain ⟨rfl, -⟩ := numP_inv e3 s2
  obtain ⟨rfl, -⟩ := numP_inv e4 (small_right s2)
  subst g1 g2 g3 g4 h2
  simp only [List.append_assoc]
def tailL (r : RecP) : List Nat := if chgs r.kind = true then chgL r.chg else if r.kind = 8 then tabL r else []
theorem bodyL_eq (r : RecP) : bodyL r = headB r ++ tailL r := rfl
theorem okR_none8 {r : RecP} (h : okR r = true) (h8 : r.kind ≠ 8) : r.txns = [] ∧ r.pages = [] := by
  unfold okR at h
  simp only [Bool.and_eq_true, Bool.or_eq_true, decide_eq_true_iff, beq_iff_eq] at h
  have := h.1.1.2
  rcases this with z | z
  · exact absurd z h8
  · exact ⟨List.eq_nil_of_length_eq_zero (by omega), List.eq_nil_of_length_eq_zero (by omega)⟩
theorem okR_noChg {r : RecP} (h : okR r = true) (hc : chgs r.kind = false) : r.chg = chgZ0 := by
  unfold okR okC at h
  simp only [Bool.and_eq_true, Bool.or_eq_true, decide_eq_true_iff, beq_iff_eq, hc, Bool.false_eq_true, false_or, Bool.not_eq_true'] at h
  obtain ⟨⟨⟨h1, h2⟩, h3⟩, h4⟩ := h
  obtain ⟨⟨⟨⟨g1, g2⟩, g3⟩, g4⟩, ⟨⟨g5, g6⟩, g7⟩, g8⟩ := h3
  obtain ⟨kind, txn, prev, next, ⟨page, slot, had, has, before, after⟩, txns, pages⟩ := r
  simp only at *
  subst g5 g6 g7 g8
  have e1 : before = [] := List.eq_nil_of_length_eq_zero (by simpa using g3)
  have e2 : after = [] := List.eq_nil_of_length_eq_zero (by simpa using g4)
  subst e1 e2
  rfl
theorem restP_enc {r : RecP} (h : okR r = true) (hf : r.Fits) : restP r.kind (tailL r) = some ((r.chg, r.txns, r.pages), []) := by
  obtain ⟨l1, l2, l3, l4⟩ := okR_lens h
  unfold restP tailL
  by_cases hc : chgs r.kind = true
  · rw [if_pos hc, if_pos hc]
    have h8 : r.kind ≠ 8 := fun e => by rw [e] at hc; exact absurd hc (by decide)
    obtain ⟨e1, e2⟩ := okR_none8 h h8
    have := chgP_enc [] hf.chg (show r.chg.before.length < 256 by omega) (by omega)
    rw [List.append_nil] at this
    rw [this, e1, e2]
    rfl
  · rw [if_neg hc, if_neg hc]
    have hz := okR_noChg h (by simpa using hc)
    by_cases h8 : r.kind = 8
    · rw [if_pos h8, if_pos h8]
      have := tabP_enc [] hf (show r.txns.length < 256 by omega) (by omega)
      rw [List.append_nil] at this
      rw [this, hz]
      rfl
    · rw [if_neg h8, if_neg h8]
      obtain ⟨e1, e2⟩ := okR_none8 h h8
      rw [e1, e2, hz]
theorem readP_enc {r : RecP} (h : okR r = true) (hf : r.Fits) : readP (encL r) = some r := by
  have hs := sumB_lt (bodyL_small hf)
  unfold readP
  rw [if_pos (by rw [encL_length]; omega)]
  have hd : (encL r).drop 2 = putF 4 (sumB (bodyL r)) ++ bodyL r := by
    unfold encL
    rw [List.append_assoc, List.drop_append_of_le_length (by rw [putF_length]; omega), List.drop_of_length_le (by rw [putF_length]; omega), List.nil_append]
  rw [hd, numP_put _ (show sumB (bodyL r) < 256 ^ 4 from hs)]
  simp only [Option.bind_some]
  rw [if_pos trivial, bodyL_eq, headP_enc _ hf]
  simp only [Option.bind_some]
  rw [restP_enc h hf]
  simp only [Option.bind_some]
  rw [if_pos ⟨trivial, h⟩]
theorem restP_inv {k : Nat} {l : List Nat} {c : ChgP} {t : List TxP} {d : List DirP} (a b e : Nat) (h : restP k l = some ((c, t, d), [])) (hs : Small l) : l = tailL ⟨k, a, b, e, c, t, d⟩ := by
  unfold restP at h
  unfold tailL
  by_cases hc : chgs k = true
  · rw [if_pos hc] at h
    rw [if_pos hc]
    obtain ⟨⟨c', l1⟩, e1, h⟩ := bind_some_inv h
    injection h with h
    injection h with h1 h2
    injection h1 with h1 _
    subst h1
    simp only at h2
    subst h2
    have := chgP_inv e1 hs
    rwa [List.append_nil] at this
  · rw [if_neg hc] at h
    rw [if_neg hc]
    by_cases h8 : k = 8
    · rw [if_pos h8] at h
      rw [if_pos h8]
      obtain ⟨⟨⟨t', d'⟩, l1⟩, e1, h⟩ := bind_some_inv h
      injection h with h
      injection h with h1 h2
      injection h1 with _ h1
      injection h1 with h0 h1
      simp only at h0 h1 h2
      subst h0 h1 h2
      have := tabP_inv e1 hs
      rwa [List.append_nil] at this
    · rw [if_neg h8] at h
      rw [if_neg h8]
      injection h with h
      injection h with _ h2
theorem readP_inv {l : List Nat} {r : RecP} (h : readP l = some r) (hs : Small l) : okR r = true ∧ l.drop 2 = putF 4 (sumB (bodyL r)) ++ bodyL r ∧ 2 ≤ l.length := by
  unfold readP at h
  split at h
  · rename_i h2
    obtain ⟨⟨s, body⟩, e1, h⟩ := bind_some_inv h
    split at h
    · rename_i hsum
      obtain ⟨⟨⟨a, b, c, d⟩, l1⟩, e2, h⟩ := bind_some_inv h
      obtain ⟨⟨⟨ch, t, p⟩, l2⟩, e3, h⟩ := bind_some_inv h
      split at h
      · rename_i hok
        injection h with h
        subst h
        obtain ⟨hl2, hok⟩ := hok
        simp only at hl2 hsum e3 e2
        subst hl2
        have hs2 := small_drop hs 2
        obtain ⟨g1, -⟩ := numP_inv e1 hs2
        have hsb : Small body := by rw [g1] at hs2; exact small_right hs2
        have g2 := headP_inv e2 hsb
        have hs1 : Small l1 := by rw [g2] at hsb; exact small_right hsb
        have g3 := restP_inv b c d e3 hs1
        have hb : body = bodyL ⟨a, b, c, d, ch, t, p⟩ := by rw [g2, bodyL_eq, ← g3]; rfl
        exact ⟨hok, by rw [g1, hsum, hb], h2⟩
      · cases h
    · cases h
  · cases h
theorem enc_readP {l : List Nat} {r : RecP} (h : readP l = some r) (hs : Small l) (hn : decN l = l.length) : l = encL r := by
  obtain ⟨_, hd, h2⟩ := readP_inv h hs
  have hl : (bodyL r).length + 6 = l.length := by
    have := congrArg List.length hd
    rw [List.length_drop, List.length_append, putF_length] at this
    omega
  have ht := put_getL (l.take 2) fun x hx => hs x (List.mem_of_mem_take hx)
  rw [List.length_take, Nat.min_eq_left h2, show getL (l.take 2) = l.length from hn, ← hl] at ht
  unfold encL
  rw [ht, List.append_assoc, ← hd, List.take_append_drop]
theorem encL_decN {r : RecP} (h : okR r = true) (rest : List Nat) : decN (encL r ++ rest) = (encL r).length := by
  have hl := (bodyL_length h).2
  rw [encL_length]
  unfold decN encL
  rw [List.append_assoc, List.append_assoc, List.take_append_of_le_length (by rw [putF_length]; omega), List.take_of_length_le (by rw [putF_length]; omega), getL_put]
  omega
end Go.Proofs.YtkganajbilnanaaGreat
namespace Go.Proofs.YtkganajbilnanaaGreat
open Go.ChangeShapes Go.WideShapes Go.ChangeAt Go.RowKit
open NumMath
set_option maxRecDepth 20000
def sameC (c d : ChgP) : Bool := c.page == d.page && c.slot == d.slot && c.had == d.had && c.has == d.has && decide (c.before = d.before) && decide (c.after = d.after)
theorem sameC_iff (c d : ChgP) : sameC c d = true ↔ c = d := by
  obtain ⟨a1, a2, a3, a4, a5, a6⟩ := c
  obtain ⟨b1, b2, b3, b4, b5, b6⟩ := d
  simp [sameC, and_assoc]
set_option maxHeartbeats 8000000 in
theorem sameChange_any (c d : ChgP) (m k : ChgM) (B : Nat) (w : World) (h : ChgAt w B c m) (h' : ChgAt w B d k) (hB : B ≤ w.heap.size) :
    Calls Tryz.prog 102 #[.agg (chgV c m), .agg (chgV d k)] w fun e w' => e = .returned (.bool (sameC c d)) ∧ Below w.heap.size w w' := by
  have k1 := ChgBox.of ((Blk.new w 47 (chgV c m)).alloc (.cells (chgV d k) 47))
  have k2 := Blk.new (w.alloc (.cells (chgV c m) 47)) 47 (chgV d k)
  have b1 := below_alloc w (.cells (chgV c m) 47)
  have b2 := b1.alloc b1.size (.cells (chgV d k) 47)
  rw [World.size_alloc] at k2
  have k2 := ChgBox.of k2
  have hc := h.below (b2.mono hB)
  have hd := h'.below (b2.mono hB)
  have HB := Lib.hid b2
  go_enter Tryz.func102, Tryz.ntmps102
  go_upto_region 1 with fail
  generalize World.alloc (World.alloc w _) _ = w1 at *
  have r1 := run_bytes_str (P := Tryz.prog) hc.bef 45 9 5 Tryz.underlying45 Tryz.underlying5 Tryz.underlying9 m.c1
  have r2 := run_bytes_str (P := Tryz.prog) hc.aft 45 9 5 Tryz.underlying45 Tryz.underlying5 Tryz.underlying9 m.c2
  have r3 := run_bytes_str (P := Tryz.prog) hd.bef 45 9 5 Tryz.underlying45 Tryz.underlying5 Tryz.underlying9 k.c1
  have r4 := run_bytes_str (P := Tryz.prog) hd.aft 45 9 5 Tryz.underlying45 Tryz.underlying5 Tryz.underlying9 k.c2
  have e5 := strB_beq hc.bef.2 hd.bef.2
  have e6 := strB_beq hc.aft.2 hd.aft.2
  obtain ⟨q0, q1, q2, q3, q4, q5⟩ := k1
  obtain ⟨p0, p1, p2, p3, p4, p5⟩ := k2
  have t1 := beq_nat c.page d.page
  have t2 := beq_nat c.slot d.slot
  have HS : Hid (sameC c d = (c.page == d.page && c.slot == d.slot && c.had == d.had && c.has == d.has && decide (c.before = d.before) && decide (c.after = d.after))) := Lib.hid rfl
  clear b1 b2 hc hd h h'
  generalize (c.page == d.page) = x1 at *
  generalize (c.slot == d.slot) = x2 at *
  generalize hx3 : (c.had == d.had) = x3 at *
  generalize hx4 : (c.has == d.has) = x4 at *
  generalize decide (c.before = d.before) = x5 at *
  generalize decide (c.after = d.after) = x6 at *
  cases x1
  · go_wp2
    go_ret
    exact ⟨by rw [HS.out]; rfl, HB.out⟩
  cases x2
  · go_wp2
    go_ret
    exact ⟨by rw [HS.out]; rfl, HB.out⟩
  cases x3
  · go_wp2
    go_ret
    exact ⟨by rw [HS.out]; rfl, HB.out⟩
  cases x4
  · go_wp2
    go_ret
    exact ⟨by rw [HS.out]; rfl, HB.out⟩
  cases x5
  · go_wp2
    go_ret
    exact ⟨by rw [HS.out]; rfl, HB.out⟩
  go_wp2
  go_ret
  exact ⟨by rw [HS.out]; rfl, HB.out⟩
theorem wpStill_load_run {P : Program} {w : World} {ops : Array Oper} {rest : List Oper} {o : Oper} {a : Act} {Q : Act → Prop} (hgd : o.guard = none) (t : TypeId) (x : Operand) (X v : Value) (ho : o.op = .load t x) (hx : a.eval x = X)
    (hr : (Instr.loadAt t X).run P w = .ok v w) (h : wpStill P ops w Q rest (a.put o.dst v)) : wpStill P ops w Q (o :: rest) a :=
  wpStill_step fun K hK => by
    have e : Region.wanted o (yielded ops a.tmps) = true := by unfold Region.wanted; rw [hgd]
    rw [if_pos e]
    unfold Oper.still execOp
    simp only [ho, hx, Sem.run_bind, hr, Result.andThen_ok]
    exact ⟨rfl, hK _ h⟩
theorem eqInt (d : Nat) (w : World) (t : TypeId) (k : IntKind) (a b : Nat) (h : Tryz.prog.underlying t = some (.int k)) : (Op.equalIn (d + 1) t (.int k a) (.int k b)).run Tryz.prog w = .ok (decide (a = b)) w := by
  rw [run_equalIn_int w d t k k _ _ h]
  congr 1
  rw [Bool.eq_iff_iff, beq_iff_eq, decide_eq_true_iff]
  omega
theorem agg8 (w : World) : (isAgg 5).run Tryz.prog w = .ok false w := by kernel_rfl
theorem agg32 (w : World) : (isAgg 44).run Tryz.prog w = .ok false w := by kernel_rfl
theorem agg64 (w : World) : (isAgg 43).run Tryz.prog w = .ok false w := by kernel_rfl
theorem part_one {t : TypeId} (h : ∀ w, (isAgg t).run Tryz.prog w = .ok false w) (cs : Array Value) (off : Nat) (v : Value) (w : World) (hv : cs[off]? = some v) : (part t cs off).run Tryz.prog w = .ok v w := by
  simp only [part, Sem.run_bind, h, Result.andThen_ok, hv]
  simp
theorem eq_step (d : Nat) (w : World) (xs ys : Array Value) (f : Field) (fs : List Field) (hn : f.name ≠ "_") (a b : Value) (r s : Bool) (ha : (part f.type xs f.offset).run Tryz.prog w = .ok a w) (hb : (part f.type ys f.offset).run Tryz.prog w = .ok b w)
    (he : (Op.equalIn d f.type a b).run Tryz.prog w = .ok r w) (hr : (Op.eqFields d xs ys fs).run Tryz.prog w = .ok s w) : (Op.eqFields d xs ys (f :: fs)).run Tryz.prog w = .ok (r && s) w := by
  simp only [Op.eqFields, hn, ne_eq, not_false_eq_true, if_true, Sem.run_bind, ha, hb, he, Result.andThen_ok]
  cases r
  · simp
  · simpa using hr
theorem eq_done (d : Nat) (w : World) (xs ys : Array Value) : (Op.eqFields d xs ys []).run Tryz.prog w = .ok true w := by simp [Op.eqFields]
theorem tx_fields : (Tryz.prog.fieldsOf 145).toList.map (fun f => (f.name, f.type, f.offset)) = [("Txn", 44, 0), ("Last", 43, 1), ("Undo", 43, 2), ("State", 5, 3)] := by kernel_rfl
theorem txT : Tryz.prog.underlying 145 = some (.struct (Tryz.prog.fieldsOf 145)) := by kernel_rfl
theorem txH : Tryz.prog.stoodInHeld 145 = false := by kernel_rfl
theorem tx_neq (w : World) (x y : TxP) : (binOp .neq 145 (.agg #[.int .u32 (x.txn : Nat), .int .u64 (x.last : Nat), .int .u64 (x.undo : Nat), .int .u8 (x.state : Nat)]) (.agg #[.int .u32 (y.txn : Nat), .int .u64 (y.last : Nat), .int .u64 (y.undo : Nat), .int .u8 (y.state : Nat)])).run Tryz.prog w =
    .ok (.bool (!decide (x.txn = y.txn ∧ x.last = y.last ∧ x.undo = y.undo ∧ x.state = y.state))) w := by
  obtain ⟨a1, a2, a3, a4⟩ := x
  obtain ⟨b1, b2, b3, b4⟩ := y
  rw [run_neq_struct]
  rw [run_equalIn_agg w 9999 _ _ _ txT txH]
  obtain ⟨fs, hfs⟩ : ∃ fs, (Tryz.prog.fieldsOf 145).toList = fs := ⟨_, rfl⟩
  have h := tx_fields
  rw [hfs] at h ⊢
  match fs, h with
  | [f1, f2, f3, f4], h =>
    simp only [List.map_cons, List.map_nil, List.cons.injEq, Prod.mk.injEq, and_true] at h
    obtain ⟨⟨n1, t1, o1⟩, ⟨n2, t2, o2⟩, ⟨n3, t3, o3⟩, ⟨n4, t4, o4⟩⟩ := h
    have h64 := fun a b => eqInt 9998 w 43 .u64 a b Tryz.underlying43
    have h32 := fun a b => eqInt 9998 w 44 .u32 a b Tryz.underlying44
    have h8 := fun a b => eqInt 9998 w 5 .u8 a b Tryz.underlying5
    have e4 := eq_step 9999 w _ _ f4 [] (by rw [n4]; decide) _ _ _ true (by rw [t4, o4]; exact part_one agg8 _ _ _ w rfl) (by rw [t4, o4]; exact part_one agg8 _ _ _ w rfl) (by rw [t4]; exact h8 a4 b4) (eq_done _ _ #[.int .u32 a1, .int .u64 a2, .int .u64 a3, .int .u8 a4] #[.int .u32 b1, .int .u64 b2, .int .u64 b3, .int .u8 b4])
    have e3 := eq_step 9999 w _ _ f3 _ (by rw [n3]; decide) _ _ _ _ (by rw [t3, o3]; exact part_one agg64 _ _ _ w rfl) (by rw [t3, o3]; exact part_one agg64 _ _ _ w rfl) (by rw [t3]; exact h64 a3 b3) e4
    have e2 := eq_step 9999 w _ _ f2 _ (by rw [n2]; decide) _ _ _ _ (by rw [t2, o2]; exact part_one agg64 _ _ _ w rfl) (by rw [t2, o2]; exact part_one agg64 _ _ _ w rfl) (by rw [t2]; exact h64 a2 b2) e3
    have e1 := eq_step 9999 w _ _ f1 _ (by rw [n1]; decide) _ _ _ _ (by rw [t1, o1]; exact part_one agg32 _ _ _ w rfl) (by rw [t1, o1]; exact part_one agg32 _ _ _ w rfl) (by rw [t1]; exact h32 a1 b1) e2
    rw [e1]
    simp
theorem dir_fields : (Tryz.prog.fieldsOf 147).toList.map (fun f => (f.name, f.type, f.offset)) = [("Page", 44, 0), ("First", 43, 1)] := by kernel_rfl
theorem dirT : Tryz.prog.underlying 147 = some (.struct (Tryz.prog.fieldsOf 147)) := by kernel_rfl
theorem dirH : Tryz.prog.stoodInHeld 147 = false := by kernel_rfl
theorem dir_neq (w : World) (x y : DirP) : (binOp .neq 147 (.agg #[.int .u32 (x.page : Nat), .int .u64 (x.first : Nat)]) (.agg #[.int .u32 (y.page : Nat), .int .u64 (y.first : Nat)])).run Tryz.prog w =
    .ok (.bool (!decide (x.page = y.page ∧ x.first = y.first))) w := by
  obtain ⟨a1, a2⟩ := x
  obtain ⟨b1, b2⟩ := y
  rw [run_neq_struct]
  rw [run_equalIn_agg w 9999 _ _ _ dirT dirH]
  obtain ⟨fs, hfs⟩ : ∃ fs, (Tryz.prog.fieldsOf 147).toList = fs := ⟨_, rfl⟩
  have h := dir_fields
  rw [hfs] at h ⊢
  match fs, h with
  | [f1, f2], h =>
    simp only [List.map_cons, List.map_nil, List.cons.injEq, Prod.mk.injEq, and_true] at h
    obtain ⟨⟨n1, t1, o1⟩, ⟨n2, t2, o2⟩⟩ := h
    have h64 := fun a b => eqInt 9998 w 43 .u64 a b Tryz.underlying43
    have h32 := fun a b => eqInt 9998 w 44 .u32 a b Tryz.underlying44
    have e2 := eq_step 9999 w _ _ f2 [] (by rw [n2]; decide) _ _ _ true (by rw [t2, o2]; exact part_one agg64 _ _ _ w rfl) (by rw [t2, o2]; exact part_one agg64 _ _ _ w rfl) (by rw [t2]; exact h64 a2 b2) (eq_done _ _ #[.int .u32 a1, .int .u64 a2] #[.int .u32 b1, .int .u64 b2])
    have e1 := eq_step 9999 w _ _ f1 _ (by rw [n1]; decide) _ _ _ _ (by rw [t1, o1]; exact part_one agg32 _ _ _ w rfl) (by rw [t1, o1]; exact part_one agg32 _ _ _ w rfl) (by rw [t1]; exact h32 a1 b1) e2
    rw [e1]
    simp
def SamePost (r s : RecP) (w : World) (e : Ending) (w' : World) : Prop := (∃ b, e = .returned (.bool b) ∧ (b = true ↔ r = s)) ∧ Below w.heap.size w w'
theorem bne_nat (a b : Nat) : ∃ x : Bool, ((a : Int) != (b : Int)) = x ∧ (x = false ↔ a = b) := ⟨_, rfl, by
  rw [bne_eq_false_iff_eq]
  omega⟩
theorem tx_ext (x y : TxP) : (x.txn = y.txn ∧ x.last = y.last ∧ x.undo = y.undo ∧ x.state = y.state) ↔ x = y := by
  obtain ⟨a1, a2, a3, a4⟩ := x
  obtain ⟨b1, b2, b3, b4⟩ := y
  simp
theorem dir_ext (x y : DirP) : (x.page = y.page ∧ x.first = y.first) ↔ x = y := by
  obtain ⟨a1, a2⟩ := x
  obtain ⟨b1, b2⟩ := y
  simp
theorem rec_ext (r s : RecP) (e1 : r.kind = s.kind) (e2 : r.txn = s.txn) (e3 : r.prev = s.prev) (e4 : r.next = s.next) (e6 : r.txns = s.txns) (e7 : r.pages = s.pages) : sameC r.chg s.chg = true ↔ r = s := by
  rw [sameC_iff]
  constructor
  · intro e5
    obtain ⟨a1, a2, a3, a4, a5, a6, a7⟩ := r
    obtain ⟨b1, b2, b3, b4, b5, b6, b7⟩ := s
    dsimp only at e1 e2 e3 e4 e5 e6 e7
    subst e1 e2 e3 e4 e5 e6 e7
    rfl
  · intro h
    rw [h]
set_option maxHeartbeats 16000000 in
theorem same_rec (r s : RecP) (m k : RecMm) (B : Nat) (w : World) (h : RecAt w B r m) (h' : RecAt w B s k) (hB : B ≤ w.heap.size) (hl1 : r.txns.length ≤ 100000) (hl2 : r.pages.length ≤ 100000) :
    Calls Tryz.prog 50 #[.agg (recA r m), .agg (recA s k)] w (SamePost r s w) := by
  have kr := (Blk.new w 51 (recA r m)).alloc (.cells (recA s k) 51)
  have ks := Blk.new (w.alloc (.cells (recA r m) 51)) 51 (recA s k)
  have b1 := below_alloc w (.cells (recA r m) 51)
  have b2 := b1.alloc b1.size (.cells (recA s k) 51)
  rw [World.size_alloc] at ks
  go_enter Tryz.func50, Tryz.ntmps50
  go_upto_region 1 with fail
  have hR := h.below (b2.mono hB)
  have hS := h'.below (b2.mono hB)
  generalize World.alloc (World.alloc w _) _ = w1 at *
  have hgr := kr.lt
  have hgs := ks.lt
  generalize w.heap.size + 1 = g2 at *
  have HKR := Lib.hid kr
  have HKS := Lib.hid ks
  have HB2 := Lib.hid b2
  have hBw : B ≤ w1.heap.size := Nat.le_trans hB b2.size
  have FIN : Hid (∀ W x, Below w1.heap.size w1 W → (x = true ↔ r = s) → SamePost r s w (.returned (.bool x)) W) := Lib.hid fun W x a b => ⟨⟨x, rfl, b⟩, HB2.out.trans (a.mono HB2.out.size)⟩
  obtain ⟨x1, t1, i1⟩ := bne_nat r.kind s.kind
  obtain ⟨x2, t2, i2⟩ := bne_nat r.txn s.txn
  obtain ⟨x3, t3, i3⟩ := bne_nat r.prev s.prev
  obtain ⟨x4, t4, i4⟩ := bne_nat r.next s.next
  obtain ⟨x5, t5, i5⟩ := bne_nat r.txns.length s.txns.length
  obtain ⟨x6, t6, i6⟩ := bne_nat r.pages.length s.pages.length
  have I1 := Lib.hid i1
  have I2 := Lib.hid i2
  have I3 := Lib.hid i3
  have I4 := Lib.hid i4
  have I5 := Lib.hid i5
  have I6 := Lib.hid i6
  have p0 : w1.cell? ⟨w.heap.size, 0, none⟩ = some (.int .u8 (r.kind : Nat)) := kr.cell 0
  have p1 : w1.cell? ⟨w.heap.size, 1, none⟩ = some (.int .u32 (r.txn : Nat)) := kr.cell 1
  have p2 : w1.cell? ⟨w.heap.size, 2, none⟩ = some (.int .u64 (r.prev : Nat)) := kr.cell 2
  have p3 : w1.cell? ⟨w.heap.size, 3, none⟩ = some (.int .u64 (r.next : Nat)) := kr.cell 3
  have p10 : w1.cell? ⟨w.heap.size, 10, none⟩ = some (.slice m.A3 r.txns.length m.c3) := kr.cell 10
  have p11 : w1.cell? ⟨w.heap.size, 11, none⟩ = some (.slice m.A4 r.pages.length m.c4) := kr.cell 11
  have q0 : w1.cell? ⟨g2, 0, none⟩ = some (.int .u8 (s.kind : Nat)) := ks.cell 0
  have q1 : w1.cell? ⟨g2, 1, none⟩ = some (.int .u32 (s.txn : Nat)) := ks.cell 1
  have q2 : w1.cell? ⟨g2, 2, none⟩ = some (.int .u64 (s.prev : Nat)) := ks.cell 2
  have q3 : w1.cell? ⟨g2, 3, none⟩ = some (.int .u64 (s.next : Nat)) := ks.cell 3
  have q10 : w1.cell? ⟨g2, 10, none⟩ = some (.slice k.A3 s.txns.length k.c3) := ks.cell 10
  have q11 : w1.cell? ⟨g2, 11, none⟩ = some (.slice k.A4 s.pages.length k.c4) := ks.cell 11
  clear kr ks b1 b2 h h' i1 i2 i3 i4 i5 i6
  have NO : Hid (∀ W, Below w1.heap.size w1 W → r ≠ s → SamePost r s w (.returned (.bool false)) W) := Lib.hid fun W a b => FIN.out W false a ⟨(fun e => by cases e), fun e => absurd e b⟩
  cases x1
  rotate_left
  · have F := Lib.hid (NO.out w1 (Below.refl _ _) fun e => by have := I1.out.2 (by rw [e]); cases this)
    clear NO
    go_wp2
    go_ret
    exact F.out
  cases x2
  rotate_left
  · have F := Lib.hid (NO.out w1 (Below.refl _ _) fun e => by have := I2.out.2 (by rw [e]); cases this)
    clear NO
    go_wp2
    go_ret
    exact F.out
  cases x3
  rotate_left
  · have F := Lib.hid (NO.out w1 (Below.refl _ _) fun e => by have := I3.out.2 (by rw [e]); cases this)
    clear NO
    go_wp2
    go_ret
    exact F.out
  cases x4
  rotate_left
  · have F := Lib.hid (NO.out w1 (Below.refl _ _) fun e => by have := I4.out.2 (by rw [e]); cases this)
    clear NO
    go_wp2
    go_ret
    exact F.out
  cases x5
  rotate_left
  · have F := Lib.hid (NO.out w1 (Below.refl _ _) fun e => by have := I5.out.2 (by rw [e]); cases this)
    clear NO
    go_wp2
    go_ret
    exact F.out
  cases x6
  rotate_left
  · have F := Lib.hid (NO.out w1 (Below.refl _ _) fun e => by have := I6.out.2 (by rw [e]); cases this)
    clear NO
    go_wp2
    go_ret
    exact F.out
  have n1 := I5.out.1 rfl
  have n2 := I6.out.1 rfl
  obtain ⟨a, ha⟩ : ∃ a, r.txns.length = a := ⟨_, rfl⟩
  obtain ⟨b, hb⟩ : ∃ b, r.pages.length = b := ⟨_, rfl⟩
  have HA := Lib.hid (And.intro ha (n1 ▸ ha : s.txns.length = a))
  have HB := Lib.hid (And.intro hb (n2 ▸ hb : s.pages.length = b))
  have hr10 : Hid (∀ W, Below w1.heap.size w1 W → W.cell? ⟨w.heap.size, 10, none⟩ = some (.slice m.A3 a m.c3) ∧ W.cell? ⟨g2, 10, none⟩ = some (.slice k.A3 a k.c3) ∧ W.cell? ⟨w.heap.size, 11, none⟩ = some (.slice m.A4 b m.c4) ∧ W.cell? ⟨g2, 11, none⟩ = some (.slice k.A4 b k.c4)) := Lib.hid fun W hW => by
    have e1 : W.cell? ⟨w.heap.size, 10, none⟩ = some (.slice m.A3 r.txns.length m.c3) := (HKR.out.below hW hgr).cell 10
    have e2 : W.cell? ⟨g2, 10, none⟩ = some (.slice k.A3 s.txns.length k.c3) := (HKS.out.below hW hgs).cell 10
    have e3 : W.cell? ⟨w.heap.size, 11, none⟩ = some (.slice m.A4 r.pages.length m.c4) := (HKR.out.below hW hgr).cell 11
    have e4 : W.cell? ⟨g2, 11, none⟩ = some (.slice k.A4 s.pages.length k.c4) := (HKS.out.below hW hgs).cell 11
    rw [HA.out.1] at e1
    rw [HA.out.2] at e2
    rw [HB.out.1] at e3
    rw [HB.out.2] at e4
    exact ⟨e1, e2, e3, e4⟩
  rw [ha] at hl1
  rw [hb] at hl2
  clear n1 n2 ha hb
  have HR := Lib.hid hR
  have HS := Lib.hid hS
  go_wp2_with fail
  clear p0 p1 p2 p3 p10 p11 q0 q1 q2 q3 q10 q11 hR hS I5 I6
  go_loopw [5] (fun iv wr => ∃ j : Nat, j ≤ a ∧ iv = .int .i64 j ∧ Below w1.heap.size w1 wr ∧ ∀ i < j, r.txns[i]? = s.txns[i]?) (fun iv _ => a - (intOf iv).toNat)
  case atStart => exact ⟨0, Nat.zero_le _, rfl, Below.refl _ _, fun i h => absurd h (by omega)⟩
  case round =>
    obtain ⟨j, hja, rfl, hbw, hall⟩ := hrel
    obtain ⟨p10, q10, p11, q11⟩ := hr10.out wr hbw
    rcases Nat.lt_or_ge j a with hlt | hge
    · have e1 : decide ((j : Int) < (a : Int)) = true := by rw [decide_eq_true_iff]; omega
      have e2 : (0 : Int) ≤ (j : Int) := by omega
      have e3 : (j : Int) < (a : Int) := by omega
      have k1 : j < r.txns.length := by rw [HA.out.1]; exact hlt
      have k2 : j < s.txns.length := by rw [HA.out.2]; exact hlt
      obtain ⟨b1, o1, hA1, hb1, c0, c1, c2, c3⟩ := (HR.out.txs.below (hbw.mono hBw)) j k1
      obtain ⟨b2, o2, hA2, hb2, d0, d1, d2, d3⟩ := (HS.out.txs.below (hbw.mono hBw)) j k2
      have hg1 : r.txns[j]? = some r.txns[j] := List.getElem?_eq_getElem k1
      have hg2 : s.txns[j]? = some s.txns[j] := List.getElem?_eq_getElem k2
      generalize r.txns[j] = x at *
      generalize s.txns[j] = y at *
      have hq : ∀ W, (binOp .neq 145 (.agg (txV x)) (.agg (txV y))).run Tryz.prog W = .ok (.bool (!decide (x.txn = y.txn ∧ x.last = y.last ∧ x.undo = y.undo ∧ x.state = y.state))) W := fun W => tx_neq W x y
      obtain ⟨z, hz⟩ : ∃ z, decide (x.txn = y.txn ∧ x.last = y.last ∧ x.undo = y.undo ∧ x.state = y.state) = z := ⟨_, rfl⟩
      have hzz : z = true ↔ x = y := by rw [← hz, decide_eq_true_iff]; exact tx_ext x y
      rw [hz] at hq
      have ld1 := load_tx (w := wr.drew) c0 c1 c2 c3
      have ld2 := load_tx (w := wr.drew) d0 d1 d2 d3
      have D : Hid ((wr.drew).heap = wr.heap) := Lib.hid rfl
      have HH := Lib.hid (And.intro hall (And.intro hg1 (And.intro hg2 hzz)))
      clear hall hg1 hg2 hzz hz c0 c1 c2 c3 d0 d1 d2 d3
      rw [hA1] at p10
      rw [hA2] at q10
      clear hA1 hA2
      go_upto_region 6 with fail
      go_still_tail 10, (by kernel_rfl)
      refine wpStill_load_run rfl 145 (.tmp 61) _ _ rfl rfl ld1 ?_
      repeat still_step
      refine wpStill_load_run rfl 145 (.tmp 66) _ _ rfl rfl ld2 ?_
      refine wpStill_nil ?_
      change wpList _ _ _ _ _ wr.drew
      clear ld1 ld2
      have DB : Below wr.heap.size wr wr.drew := below_drew0 wr
      have HW := Lib.hid (hbw.trans (DB.mono hbw.size))
      clear DB hbw p10 q10 p11 q11
      cases z
      · have F := Lib.hid (NO.out _ HW.out fun e => by
          obtain ⟨-, g1, g2, g3⟩ := HH.out
          subst e
          rw [g1] at g2
          cases g3.2 (Option.some.inj g2))
        clear NO HH
        go_wp2
        go_ret
        exact F.out
      · go_wp2
        go_roundw
        case rel => exact ⟨j + 1, by omega, by go_num, HW.out, fun i hi => by
          obtain ⟨g0, g1, g2, g3⟩ := HH.out
          rcases Nat.lt_or_ge i j with q | q
          · exact g0 i q
          · obtain rfl : i = j := by omega
            rw [g1, g2, g3.1 rfl]⟩
        case measure => simp [intOf]; omega
    · obtain rfl : j = a := by omega
      have e1 : decide ((j : Int) < (j : Int)) = false := by rw [decide_eq_false_iff_not]; omega
      have HT : Hid (r.txns = s.txns) := Lib.hid (List.ext_getElem? fun i => by
        rcases Nat.lt_or_ge i j with q | q
        · exact hall i q
        · rw [List.getElem?_eq_none (by rw [HA.out.1]; exact q), List.getElem?_eq_none (by rw [HA.out.2]; exact q)])
      have HW := Lib.hid hbw
      clear hall hja hge p11 q11
      go_wp2_with fail
      clear p10 q10
      go_loopw [6] (fun iv w' => ∃ i : Nat, i ≤ b ∧ iv = .int .i64 i ∧ Below w1.heap.size w1 w' ∧ ∀ n < i, r.pages[n]? = s.pages[n]?) (fun iv _ => b - (intOf iv).toNat)
      case atStart => exact ⟨0, Nat.zero_le _, rfl, hbw, fun i h => absurd h (by omega)⟩
      case round =>
        clear hbw HW
        obtain ⟨i, hib, rfl, hbw, hall⟩ := hrel
        rename World => wq
        obtain ⟨p10, q10, p11, q11⟩ := hr10.out wq hbw
        rcases Nat.lt_or_ge i b with hlt | hge
        · have e1 : decide ((i : Int) < (b : Int)) = true := by rw [decide_eq_true_iff]; omega
          have e2 : (0 : Int) ≤ (i : Int) := by omega
          have e3 : (i : Int) < (b : Int) := by omega
          have k1 : i < r.pages.length := by rw [HB.out.1]; exact hlt
          have k2 : i < s.pages.length := by rw [HB.out.2]; exact hlt
          obtain ⟨b1, o1, hA1, hb1, c0, c1⟩ := (HR.out.dirs.below (hbw.mono hBw)) i k1
          obtain ⟨b2, o2, hA2, hb2, d0, d1⟩ := (HS.out.dirs.below (hbw.mono hBw)) i k2
          have hg1 : r.pages[i]? = some r.pages[i] := List.getElem?_eq_getElem k1
          have hg2 : s.pages[i]? = some s.pages[i] := List.getElem?_eq_getElem k2
          generalize r.pages[i] = x at *
          generalize s.pages[i] = y at *
          have hq : ∀ W, (binOp .neq 147 (.agg (dirV x)) (.agg (dirV y))).run Tryz.prog W = .ok (.bool (!decide (x.page = y.page ∧ x.first = y.first))) W := fun W => dir_neq W x y
          obtain ⟨z, hz⟩ : ∃ z, decide (x.page = y.page ∧ x.first = y.first) = z := ⟨_, rfl⟩
          have hzz : z = true ↔ x = y := by rw [← hz, decide_eq_true_iff]; exact dir_ext x y
          rw [hz] at hq
          have ld1 := load_dir (w := wq.drew) c0 c1
          have ld2 := load_dir (w := wq.drew) d0 d1
          have HH := Lib.hid (And.intro hall (And.intro hg1 (And.intro hg2 hzz)))
          clear hall hg1 hg2 hzz hz c0 c1 d0 d1 p10 q10
          rw [hA1] at p11
          rw [hA2] at q11
          clear hA1 hA2
          go_upto_region 11 with fail
          go_still_tail 10, (by kernel_rfl)
          refine wpStill_load_run rfl 147 (.tmp 79) _ _ rfl rfl ld1 ?_
          repeat still_step
          refine wpStill_load_run rfl 147 (.tmp 84) _ _ rfl rfl ld2 ?_
          refine wpStill_nil ?_
          change wpList _ _ _ _ _ wq.drew
          clear ld1 ld2
          have DB : Below wq.heap.size wq wq.drew := below_drew0 wq
          have HW := Lib.hid (hbw.trans (DB.mono hbw.size))
          clear DB hbw p11 q11
          cases z
          · have F := Lib.hid (NO.out _ HW.out fun e => by
              obtain ⟨-, g1, g2, g3⟩ := HH.out
              subst e
              rw [g1] at g2
              cases g3.2 (Option.some.inj g2))
            clear NO HH
            go_wp2
            go_ret
            exact F.out
          · go_wp2
            go_roundw
            case rel => exact ⟨i + 1, by omega, by go_num, HW.out, fun n hi => by
              obtain ⟨g0, g1, g2, g3⟩ := HH.out
              rcases Nat.lt_or_ge n i with q | q
              · exact g0 n q
              · obtain rfl : n = i := by omega
                rw [g1, g2, g3.1 rfl]⟩
            case measure => simp [intOf]; omega
        · obtain rfl : i = b := by omega
          have e1 : decide ((i : Int) < (i : Int)) = false := by rw [decide_eq_false_iff_not]; omega
          have HP : Hid (r.pages = s.pages) := Lib.hid (List.ext_getElem? fun n => by
            rcases Nat.lt_or_ge n i with q | q
            · exact hall n q
            · rw [List.getElem?_eq_none (by rw [HB.out.1]; exact q), List.getElem?_eq_none (by rw [HB.out.2]; exact q)])
          have HW := Lib.hid hbw
          have ld1 := load_chg (HKR.out.below hbw hgr)
          have ld2 := load_chg (HKS.out.below hbw hgs)
          have cc := sameChange_any r.chg s.chg m.cm k.cm B wq (HR.out.chg.below (hbw.mono hBw)) (HS.out.chg.below (hbw.mono hBw)) (Nat.le_trans hBw hbw.size)
          have HE : Hid (sameC r.chg s.chg = true ↔ r = s) := Lib.hid (rec_ext r s (I1.out.1 (by trivial)) (I2.out.1 (by trivial)) (I3.out.1 (by trivial)) (I4.out.1 (by trivial)) HT.out HP.out)
          generalize sameC r.chg s.chg = z at *
          clear hall hbw hib hge p10 q10 I1 I2 I3 I4
          go_wp2_with (first | (refine wpList_load_run rfl 47 (.tmp 87) _ _ rfl rfl ld1 ?_; clear ld1) | (refine wpList_load_run rfl 47 (.tmp 89) _ _ rfl rfl ld2 ?_; clear ld2))
          refine cc.mono ?_
          rintro e w3 ⟨rfl, b3⟩
          have F := Lib.hid (FIN.out w3 z (HW.out.trans (b3.mono HW.out.size)) HE.out)
          clear cc b3 HE FIN NO HW
          go_wp2
          go_ret
          exact F.out
end Go.Proofs.YtkganajbilnanaaGreat
