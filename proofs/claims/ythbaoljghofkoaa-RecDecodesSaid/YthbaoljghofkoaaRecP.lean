/- Records as bytes and back, plain. Conditions: none. -/
import Derived.Test.YthbaoljghofkoaaRecF
namespace Go.Proofs.Ythbaoljghofkoaa
open NumMath
set_option linter.unusedVariables false
set_option linter.unusedSimpArgs false

theorem small_left {a b : List Nat} (h : Small (a ++ b)) : Small a := fun x hx => h x (List.mem_append_left _ hx)
theorem small_right {a b : List Nat} (h : Small (a ++ b)) : Small b := fun x hx => h x (List.mem_append_right _ hx)
theorem put_getL : ∀ (l : List Nat), Small l → putF l.length (getL l) = l
  | [], _ => rfl
  | b :: l, h => by
    have hb := h b (by simp)
    have ih := put_getL l fun x hx => h x (List.mem_cons_of_mem _ hx)
    show getL (b :: l) % 256 :: putF l.length (getL (b :: l) / 256) = b :: l
    have e : getL (b :: l) = b + 256 * getL l := rfl
    rw [e, show (b + 256 * getL l) % 256 = b by omega, show (b + 256 * getL l) / 256 = getL l by omega, ih]
theorem numP_put {m v : Nat} (rest : List Nat) (h : v < 256 ^ m) : numP m (putF m v ++ rest) = some (v, rest) := by
  have hl := putF_length m v
  rw [numP_some (by rw [List.length_append]; omega), List.take_append_of_le_length (by omega), List.take_of_length_le (by omega), List.drop_append_of_le_length (by omega), List.drop_of_length_le (by omega), getL_put, Nat.mod_eq_of_lt h, List.nil_append]
theorem numP_inv {m a : Nat} {l l' : List Nat} (h : numP m l = some (a, l')) (hs : Small l) : l = putF m a ++ l' ∧ a < 256 ^ m := by
  unfold numP at h
  split at h
  · rename_i hm
    injection h with h
    injection h with h1 h2
    subst h1
    subst h2
    refine ⟨?_, getL_take_lt hs m⟩
    have := put_getL (l.take m) fun x hx => hs x (List.mem_of_mem_take hx)
    rw [List.length_take, Nat.min_eq_left hm] at this
    rw [this, List.take_append_drop]
  · cases h
theorem bytP_len {d : List Nat} (rest : List Nat) (h : d.length < 256) : bytP (lenL d ++ rest) = some (d, rest) := by
  unfold lenL
  have h1 := numP_put (d ++ rest) (m := 1) (v := d.length) (by omega)
  rw [List.append_assoc]
  rw [numP_some (by rw [List.length_append, putF_length]; omega)] at h1
  injection h1 with h1
  injection h1 with h1 h2
  unfold bytP
  rw [h1, h2, if_pos ⟨by rw [List.length_append, putF_length]; omega, by rw [List.length_append]; omega⟩, List.take_append_of_le_length (Nat.le_refl _), List.take_length, List.drop_append_of_le_length (Nat.le_refl _), List.drop_length, List.nil_append]
theorem bytP_inv {l d r : List Nat} (h : bytP l = some (d, r)) (hs : Small l) : l = lenL d ++ r ∧ d.length < 256 := by
  unfold bytP at h
  split at h
  · rename_i hm
    injection h with h
    injection h with h1 h2
    have hn := numP_inv (numP_some hm.1) hs
    have hd : d.length = getL (l.take 1) := by rw [← h1, List.length_take]; omega
    refine ⟨?_, by rw [hd]; exact hn.2⟩
    unfold lenL
    rw [hd, List.append_assoc, ← h1, ← h2, List.take_append_drop]
    exact hn.1
  · cases h
theorem flags_enc (c : ChgP) : ¬ 3 < flagsN c ∧ (flagsN c % 2 == 1) = c.had ∧ (flagsN c / 2 % 2 == 1) = c.has ∧ flagsN c < 256 := by
  unfold flagsN
  cases c.had <;> cases c.has <;> simp
theorem chgP_enc {c : ChgP} (rest : List Nat) (hf : c.Fits) (h1 : c.before.length < 256) (h2 : c.after.length < 256) : chgP (chgL c ++ rest) = some (c, rest) := by
  obtain ⟨f1, f2, f3, f4⟩ := flags_enc c
  unfold chgP chgL
  simp only [List.append_assoc]
  rw [numP_put _ (show c.page < 256 ^ 4 from hf.1)]
  simp only [Option.bind_some]
  rw [numP_put _ (show c.slot < 256 ^ 2 from hf.2.1)]
  simp only [Option.bind_some]
  rw [numP_put _ (show flagsN c < 256 ^ 1 from f4)]
  simp only [Option.bind_some]
  rw [if_neg f1, bytP_len _ h1]
  simp only [Option.bind_some]
  rw [bytP_len _ h2]
  simp only [Option.bind_some]
  rw [f2, f3]
theorem bind_some_inv {α β : Type} {o : Option α} {f : α → Option β} {b : β} (h : o.bind f = some b) : ∃ a, o = some a ∧ f a = some b := by
  cases o with
  | none => cases h
  | some a => exact ⟨a, rfl, h⟩
theorem flags_dec {f : Nat} (h : ¬ 3 < f) (c : ChgP) (h1 : c.had = (f % 2 == 1)) (h2 : c.has = (f / 2 % 2 == 1)) : flagsN c = f := by
  unfold flagsN
  rw [h1, h2]
  rcases (show f = 0 ∨ f = 1 ∨ f = 2 ∨ f = 3 by omega) with rfl | rfl | rfl | rfl <;> rfl
theorem chgP_inv {l r : List Nat} {c : ChgP} (h : chgP l = some (c, r)) (hs : Small l) : l = chgL c ++ r := by
  unfold chgP at h
  obtain ⟨⟨a, l1⟩, e1, h⟩ := bind_some_inv h
  obtain ⟨⟨b, l2⟩, e2, h⟩ := bind_some_inv h
  obtain ⟨⟨f, l3⟩, e3, h⟩ := bind_some_inv h
  split at h
  · cases h
  rename_i hf
  obtain ⟨⟨x, l4⟩, e4, h⟩ := bind_some_inv h
  obtain ⟨⟨y, l5⟩, e5, h⟩ := bind_some_inv h
  injection h with h
  injection h with h1 h2
  obtain ⟨rfl, -⟩ := numP_inv e1 hs
  have s1 := small_right hs
  obtain ⟨rfl, -⟩ := numP_inv e2 s1
  have s2 := small_right s1
  obtain ⟨rfl, -⟩ := numP_inv e3 s2
  have s3 := small_right s2
  obtain ⟨rfl, -⟩ := bytP_inv e4 s3
  have s4 := small_right s3
  obtain ⟨rfl, -⟩ := bytP_inv e5 s4
  have hfl := flags_dec hf c (by rw [← h1]) (by rw [← h1])
  unfold chgL
  rw [hfl]
  subst h1
  subst h2
  simp only [List.append_assoc]
theorem txP_enc {x : TxP} (rest : List Nat) (hf : x.Fits) : txP (txL x ++ rest) = some (x, rest) := by
  unfold txP txL
  simp only [List.append_assoc]
  rw [numP_put _ (show x.txn < 256 ^ 4 from hf.1)]
  simp only [Option.bind_some]
  rw [numP_put _ (show x.last < 256 ^ 8 from hf.2.1)]
  simp only [Option.bind_some]
  rw [numP_put _ (show x.undo < 256 ^ 8 from hf.2.2.1)]
  simp only [Option.bind_some]
  rw [numP_put _ (show x.state < 256 ^ 1 from hf.2.2.2)]
  rfl
theorem txP_inv {l r : List Nat} {x : TxP} (h : txP l = some (x, r)) (hs : Small l) : l = txL x ++ r := by
  unfold txP at h
  obtain ⟨⟨a, l1⟩, e1, h⟩ := bind_some_inv h
  obtain ⟨⟨b, l2⟩, e2, h⟩ := bind_some_inv h
  obtain ⟨⟨f, l3⟩, e3, h⟩ := bind_some_inv h
  obtain ⟨⟨g, l4⟩, e4, h⟩ := bind_some_inv h
  injection h with h
  injection h with h1 h2
  obtain ⟨rfl, -⟩ := numP_inv e1 hs
  have s1 := small_right hs
  obtain ⟨rfl, -⟩ := numP_inv e2 s1
  have s2 := small_right s1
  obtain ⟨rfl, -⟩ := numP_inv e3 s2
  obtain ⟨rfl, -⟩ := numP_inv e4 (small_right s2)
  subst h1
  subst h2
  unfold txL
  simp only [List.append_assoc]
theorem dirP_enc {x : DirP} (rest : List Nat) (hf : x.Fits) : dirP (dirL x ++ rest) = some (x, rest) := by
  unfold dirP dirL
  simp only [List.append_assoc]
  rw [numP_put _ (show x.page < 256 ^ 4 from hf.1)]
  simp only [Option.bind_some]
  rw [numP_put _ (show x.first < 256 ^ 8 from hf.2)]
  rfl
theorem dirP_inv {l r : List Nat} {x : DirP} (h : dirP l = some (x, r)) (hs : Small l) : l = dirL x ++ r := by
  unfold dirP at h
  obtain ⟨⟨a, l1⟩, e1, h⟩ := bind_some_inv h
  obtain ⟨⟨b, l2⟩, e2, h⟩ := bind_some_inv h
  injection h with h
  injection h with h1 h2
  obtain ⟨rfl, -⟩ := numP_inv e1 hs
  obtain ⟨rfl, -⟩ := numP_inv e2 (small_right hs)
  subst h1
  subst h2
  unfold dirL
  simp only [List.append_assoc]
theorem txsK_enc (t : List TxP) (rest : List Nat) (hf : ∀ x ∈ t, x.Fits) : ∀ k, k ≤ t.length → txsK k (t.flatMap txL ++ rest) = some (t.take k, (t.drop k).flatMap txL ++ rest)
  | 0, _ => by rw [List.take_zero, List.drop_zero]; rfl
  | k + 1, hk => by
    show (txsK k _).bind _ = _
    rw [txsK_enc t rest hf k (by omega)]
    have hd : t.drop k = t[k] :: t.drop (k + 1) := List.drop_eq_getElem_cons hk
    simp only [Option.bind_some]
    rw [hd, List.flatMap_cons, List.append_assoc, txP_enc _ (hf _ (List.getElem_mem hk))]
    simp only [Option.bind_some]
    rw [List.take_succ_eq_append_getElem hk]
theorem dirsK_enc (t : List DirP) (rest : List Nat) (hf : ∀ x ∈ t, x.Fits) : ∀ k, k ≤ t.length → dirsK k (t.flatMap dirL ++ rest) = some (t.take k, (t.drop k).flatMap dirL ++ rest)
  | 0, _ => by rw [List.take_zero, List.drop_zero]; rfl
  | k + 1, hk => by
    show (dirsK k _).bind _ = _
    rw [dirsK_enc t rest hf k (by omega)]
    have hd : t.drop k = t[k] :: t.drop (k + 1) := List.drop_eq_getElem_cons hk
    simp only [Option.bind_some]
    rw [hd, List.flatMap_cons, List.append_assoc, dirP_enc _ (hf _ (List.getElem_mem hk))]
    simp only [Option.bind_some]
    rw [List.take_succ_eq_append_getElem hk]
theorem txsK_inv : ∀ (k : Nat) {l r : List Nat} {t : List TxP}, txsK k l = some (t, r) → Small l → l = t.flatMap txL ++ r ∧ t.length = k
  | 0, l, r, t, h, hs => by
    injection h with h
    injection h with h1 h2
    subst h1
    subst h2
    exact ⟨rfl, rfl⟩
  | k + 1, l, r, t, h, hs => by
    have h' : (txsK k l).bind (fun q => (txP q.2).bind fun x => some (q.1 ++ [x.1], x.2)) = some (t, r) := h
    obtain ⟨⟨t0, l0⟩, e1, h'⟩ := bind_some_inv h'
    obtain ⟨⟨x, l1⟩, e2, h'⟩ := bind_some_inv h'
    injection h' with h'
    injection h' with h1 h2
    obtain ⟨rfl, hl⟩ := txsK_inv k e1 hs
    obtain rfl := txP_inv e2 (small_right hs)
    subst h1
    subst h2
    exact ⟨by simp, by simp [hl]⟩
theorem dirsK_inv : ∀ (k : Nat) {l r : List Nat} {t : List DirP}, dirsK k l = some (t, r) → Small l → l = t.flatMap dirL ++ r ∧ t.length = k
  | 0, l, r, t, h, hs => by
    injection h with h
    injection h with h1 h2
    subst h1
    subst h2
    exact ⟨rfl, rfl⟩
  | k + 1, l, r, t, h, hs => by
    have h' : (dirsK k l).bind (fun q => (dirP q.2).bind fun x => some (q.1 ++ [x.1], x.2)) = some (t, r) := h
    obtain ⟨⟨t0, l0⟩, e1, h'⟩ := bind_some_inv h'
    obtain ⟨⟨x, l1⟩, e2, h'⟩ := bind_some_inv h'
    injection h' with h'
    injection h' with h1 h2
    obtain ⟨rfl, hl⟩ := dirsK_inv k e1 hs
    obtain rfl := dirP_inv e2 (small_right hs)
    subst h1
    subst h2
    exact ⟨by simp, by simp [hl]⟩
theorem tabP_enc {r : RecP} (rest : List Nat) (hf : r.Fits) (h1 : r.txns.length < 256) (h2 : r.pages.length < 256) : tabP (tabL r ++ rest) = some ((r.txns, r.pages), rest) := by
  unfold tabP tabL
  simp only [List.append_assoc]
  rw [numP_put _ (show r.txns.length < 256 ^ 1 from h1)]
  simp only [Option.bind_some]
  rw [txsK_enc r.txns _ hf.txns _ (Nat.le_refl _), List.take_length, List.drop_length]
  simp only [Option.bind_some, List.flatMap_nil, List.nil_append]
  rw [numP_put _ (show r.pages.length < 256 ^ 1 from h2)]
  simp only [Option.bind_some]
  rw [dirsK_enc r.pages _ hf.pages _ (Nat.le_refl _), List.take_length, List.drop_length]
  rfl
theorem tabP_inv {l r' : List Nat} {t : List TxP} {d : List DirP} (h : tabP l = some ((t, d), r')) (hs : Small l) : l = putF 1 t.length ++ t.flatMap txL ++ (putF 1 d.length ++ d.flatMap dirL) ++ r' := by
  unfold tabP at h
  obtain ⟨⟨a, l1⟩, e1, h⟩ := bind_some_inv h
  obtain ⟨⟨t0, l2⟩, e2, h⟩ := bind_some_inv h
  obtain ⟨⟨f, l3⟩, e3, h⟩ := bind_some_inv h
  obtain ⟨⟨d0, l4⟩, e4, h⟩ := bind_some_inv h
  injection h with h
  injection h with h1 h2
  injection h1 with h0 h1
  obtain ⟨rfl, -⟩ := numP_inv e1 hs
  have s1 := small_right hs
  obtain ⟨rfl, g1⟩ := txsK_inv _ e2 s1
  have s2 := small_right s1
  obtain ⟨rfl, -⟩ := numP_inv e3 s2
  obtain ⟨rfl, g2⟩ := dirsK_inv _ e4 (small_right s2)
  subst h0
  subst h1
  subst h2
  simp only at g1 g2
  rw [g1, g2]
  simp only [List.append_assoc]
theorem headP_enc {r : RecP} (rest : List Nat) (hf : r.Fits) : headP (headB r ++ rest) = some ((r.kind, r.txn, r.prev, r.next), rest) := by
  unfold headP headB
  simp only [List.append_assoc]
  rw [numP_put _ (show r.kind < 256 ^ 1 from hf.kind)]
  simp only [Option.bind_some]
  rw [numP_put _ (show r.txn < 256 ^ 4 from hf.txn)]
  simp only [Option.bind_some]
  rw [numP_put _ (show r.prev < 256 ^ 8 from hf.prev)]
  simp only [Option.bind_some]
  rw [numP_put _ (show r.next < 256 ^ 8 from hf.next)]
  rfl
theorem headP_inv {l r' : List Nat} {a b c d : Nat} (h : headP l = some ((a, b, c, d), r')) (hs : Small l) : l = putF 1 a ++ putF 4 b ++ putF 8 c ++ putF 8 d ++ r' := by
  unfold headP at h
  obtain ⟨⟨a', l1⟩, e1, h⟩ := bind_some_inv h
  obtain ⟨⟨b', l2⟩, e2, h⟩ := bind_some_inv h
  obtain ⟨⟨c', l3⟩, e3, h⟩ := bind_some_inv h
  obtain ⟨⟨d', l4⟩, e4, h⟩ := bind_some_inv h
  injection h with h
  injection h with h1 h2
  injection h1 with g1 h1
  injection h1 with g2 h1
  injection h1 with g3 g4
  obtain ⟨rfl, -⟩ := numP_inv e1 hs
  have s1 := small_right hs
  obtain ⟨rfl, -⟩ := numP_inv e2 s1
  have s2 := small_right s1
  obtain ⟨rfl, -⟩ := numP_inv e3 s2
  obtain ⟨rfl, -⟩ := numP_inv e4 (small_right s2)
  subst g1 g2 g3 g4 h2
  simp only [List.append_assoc]
end Go.Proofs.Ythbaoljghofkoaa
