/- The log, plain: its records. Conditions: none; no program in sight. -/
import Derived.Test.YtkganajbilnanaaWWalR
import Derived.Test.YtkganajbilnanaaWRecE
namespace Go.Proofs.Ytkganajbilnanaa
open NumMath
set_option linter.unusedVariables false
set_option linter.unusedSimpArgs false

/-- where records begin -/
def offs (p : Nat) : List RecP → List Nat
  | [] => []
  | r :: rs => p :: offs (p + (encL r).length) rs
def offK (rs : List RecP) (k : Nat) : Nat := ((rs.take k).flatMap encL).length
def GoodR (rs : List RecP) : Prop := ∀ r ∈ rs, okR r = true ∧ r.Fits
theorem encL_len {r : RecP} (h : okR r = true) : 27 ≤ (encL r).length ∧ (encL r).length ≤ 2206 := by
  have := bodyL_length h
  rw [encL_length]
  omega
theorem offs_length (rs : List RecP) : ∀ p, (offs p rs).length = rs.length := by
  induction rs with
  | nil => exact fun _ => rfl
  | cons r rs ih => exact fun p => by simp [offs, ih]
theorem offK_zero (rs : List RecP) : offK rs 0 = 0 := rfl
theorem offK_cons (r : RecP) (rs : List RecP) (k : Nat) : offK (r :: rs) (k + 1) = (encL r).length + offK rs k := by unfold offK; simp
theorem offs_at (rs : List RecP) : ∀ (p k : Nat), k < rs.length → (offs p rs)[k]? = some (p + offK rs k) := by
  induction rs with
  | nil => intro p k h; cases h
  | cons r rs ih =>
    intro p k h
    cases k with
    | zero => rfl
    | succ k =>
      show (offs (p + (encL r).length) rs)[k]? = _
      rw [ih _ _ (by simpa using h), offK_cons, Nat.add_assoc]
theorem offs_snoc (rs : List RecP) (r : RecP) : ∀ p, offs p (rs ++ [r]) = offs p rs ++ [p + (rs.flatMap encL).length] := by
  induction rs with
  | nil => intro p; simp [offs]
  | cons x rs ih =>
    intro p
    show p :: offs (p + (encL x).length) (rs ++ [r]) = _
    rw [ih]
    simp [offs, Nat.add_assoc]
theorem offK_all (rs : List RecP) {k : Nat} (h : rs.length ≤ k) : offK rs k = (rs.flatMap encL).length := by unfold offK; rw [List.take_of_length_le h]
theorem offK_succ {rs : List RecP} {k : Nat} (h : k < rs.length) : offK rs (k + 1) = offK rs k + (encL rs[k]).length := by
  unfold offK
  rw [List.take_succ_eq_append_getElem h, List.flatMap_append, List.length_append]
  simp
theorem offK_le (rs : List RecP) (k : Nat) : offK rs k ≤ (rs.flatMap encL).length := by
  have : rs.flatMap encL = (rs.take k).flatMap encL ++ (rs.drop k).flatMap encL := by rw [← List.flatMap_append, List.take_append_drop]
  rw [this, List.length_append]
  exact Nat.le_add_right _ _
theorem offK_step {rs : List RecP} (h : GoodR rs) {k : Nat} (hk : k < rs.length) : offK rs k + 27 ≤ offK rs (k + 1) := by
  rw [offK_succ hk]
  have := (encL_len (h _ (List.getElem_mem hk)).1).1
  omega
theorem offK_mono {rs : List RecP} (h : GoodR rs) : ∀ {j k : Nat}, j ≤ k → k ≤ rs.length → offK rs j + 27 * (k - j) ≤ offK rs k := by
  intro j k hjk
  induction k with
  | zero =>
    intro _
    obtain rfl : j = 0 := by omega
    omega
  | succ k ih =>
    intro hk
    rcases Nat.lt_or_ge k j with z | z
    · obtain rfl : j = k + 1 := by omega
      omega
    · have h1 := ih z (by omega)
      have h2 := offK_step h (k := k) (by omega)
      have h3 : k + 1 - j = (k - j) + 1 := by omega
      rw [h3]
      omega
theorem drop_off (rs : List RecP) {k : Nat} (hk : k < rs.length) : (rs.flatMap encL).drop (offK rs k) = encL rs[k] ++ (rs.drop (k + 1)).flatMap encL := by
  have : rs.flatMap encL = (rs.take k).flatMap encL ++ (encL rs[k] ++ (rs.drop (k + 1)).flatMap encL) := by
    conv => lhs; rw [← List.take_append_drop k rs, List.drop_eq_getElem_cons hk]
    rw [List.flatMap_append, List.flatMap_cons]
  rw [this]
  exact List.drop_left' rfl
theorem take_off (rs : List RecP) (k : Nat) : (rs.flatMap encL).take (offK rs k) = (rs.take k).flatMap encL := by
  have : rs.flatMap encL = (rs.take k).flatMap encL ++ (rs.drop k).flatMap encL := by rw [← List.flatMap_append, List.take_append_drop]
  rw [this]
  exact List.take_left' rfl
/-- what a log holds -/
structure LogP.recs (L : LogP) (rs : List RecP) : Prop where
  stream : L.stream = rs.flatMap encL
  starts : L.starts = offs 0 rs
  good : GoodR rs
section
variable {L : LogP} {rs : List RecP}
theorem LogP.recs.cnt (h : L.recs rs) : L.starts.length = rs.length := by rw [h.starts, offs_length]
theorem LogP.recs.at_ (h : L.recs rs) {k : Nat} (hk : k < rs.length) : L.starts[k]? = some (offK rs k) := by rw [h.starts, offs_at rs 0 k hk, Nat.zero_add]
theorem LogP.recs.get (h : L.recs rs) {k x : Nat} (hx : L.starts[k]? = some x) : k < rs.length ∧ x = offK rs k := by
  have hk : k < rs.length := by
    have := (List.getElem?_eq_some_iff.1 hx).1
    rw [h.cnt] at this
    exact this
  rw [h.at_ hk] at hx
  injection hx with hx
  exact ⟨hk, hx.symm⟩
theorem LogP.recs.mono (h : L.recs rs) : ∀ (s t a b : Nat), s ≤ t → L.starts[s]? = some a → L.starts[t]? = some b → a ≤ b := fun s t a b hst ha hb => by
  obtain ⟨_, rfl⟩ := h.get ha
  obtain ⟨ht, rfl⟩ := h.get hb
  have := offK_mono h.good hst (Nat.le_of_lt ht)
  omega
theorem LogP.recs.inn (h : L.recs rs) : ∀ x ∈ L.starts, x ≤ L.stream.length := fun x hx => by
  obtain ⟨k, hk, rfl⟩ := List.mem_iff_getElem.1 hx
  obtain ⟨h1, h2⟩ := h.get (List.getElem?_eq_getElem hk)
  rw [h2, h.stream]
  exact offK_le _ _
theorem LogP.recs.many (h : L.recs rs) : 27 * rs.length ≤ L.stream.length := by
  have := offK_mono h.good (Nat.zero_le rs.length) (Nat.le_refl _)
  rw [offK_zero, offK_all rs (Nat.le_refl _), ← h.stream] at this
  omega
theorem LogP.recs.hit (h : L.recs rs) {k : Nat} (hk : k < rs.length) : atP L (L.h.base + offK rs k) = (k, true) := by
  have h1 := offK_step h.good hk
  have h2 := offK_le rs (k + 1)
  have hc : cntP L.starts (offK rs k) = k := cnt_eq (by rw [h.cnt]; omega) fun t y hy => by
    obtain ⟨ht, rfl⟩ := h.get hy
    refine ⟨fun q => ?_, fun q => ?_⟩
    · have := offK_mono h.good (show t ≤ k by omega) (Nat.le_of_lt hk)
      omega
    · have := offK_mono h.good q (Nat.le_of_lt ht)
      omega
  unfold atP
  rw [if_neg (by omega), if_neg (by rw [h.stream]; omega), Nat.add_sub_cancel_left, hc, h.at_ hk]
  simp
theorem LogP.recs.hit' (h : L.recs rs) {lsn : Nat} (ht : (atP L lsn).2 = true) : ∃ k, k < rs.length ∧ lsn = L.h.base + offK rs k := by
  unfold atP at ht
  split at ht
  · cases ht
  · split at ht
    · cases ht
    · simp only [decide_eq_true_iff] at ht
      obtain ⟨h1, h2⟩ := h.get ht
      exact ⟨_, h1, by omega⟩
theorem LogP.recs.behind (h : L.recs rs) {k : Nat} (hk : k < rs.length) : behindP L.starts L.stream.length k = offK rs (k + 1) := by
  unfold behindP
  rcases Nat.lt_or_ge (k + 1) rs.length with z | z
  · rw [h.at_ z]
    rfl
  · rw [List.getElem?_eq_none (by rw [h.cnt]; exact z), offK_all rs z, h.stream]
    rfl
theorem LogP.recs.small (h : L.recs rs) : Small L.stream := by
  rw [h.stream]
  intro x hx
  obtain ⟨r, hr, hx⟩ := List.mem_flatMap.1 hx
  exact encL_small (h.good r hr).2 x hx
/-- a record behind the others -/
theorem LogP.recs.snoc (h : L.recs rs) {r : RecP} (hr : okR r = true) (hf : r.Fits) : LogP.recs { L with starts := L.starts ++ [L.stream.length], stream := L.stream ++ encL r } (rs ++ [r]) :=
  ⟨by show L.stream ++ encL r = _; rw [h.stream]; simp, by show L.starts ++ [L.stream.length] = _; rw [offs_snoc, h.starts, h.stream, Nat.zero_add], fun x hx => by
    rcases List.mem_append.1 hx with z | z
    · exact h.good x z
    · rw [List.mem_singleton.1 z]; exact ⟨hr, hf⟩⟩
end
/-- a log whose numbers fit, of records -/
structure LogP.fit (L : LogP) (rs : List RecP) : Prop where
  strips : L.strips ≤ 700
  fits : L.h.Fits
  area : L.h.area < 2
  slot : L.slot ≤ 1
  len : L.stream.length ≤ L.strips * 127
  lasts : L.lasts ≤ L.stream.length
  base : L.h.base + L.stream.length < 18446744073709551616
  recs : L.recs rs
theorem LogP.fit.ok {L : LogP} {rs : List RecP} (h : L.fit rs) : L.ok :=
  ⟨h.strips, h.fits, h.area, h.slot, h.len, h.lasts, h.base, h.recs.mono, by
    have h1 := h.recs.many
    have h2 := h.recs.cnt
    have h3 := h.len
    have h4 := h.strips
    omega, h.recs.inn⟩
/-- a record is read of what begins with it -/
theorem dec_enc {r : RecP} (h : okR r = true) (hf : r.Fits) (rest : List Nat) : decN (encL r ++ rest) = (encL r).length ∧ readP ((encL r ++ rest).take (decN (encL r ++ rest))) = some r := by
  have h1 := encL_decN h rest
  refine ⟨h1, ?_⟩
  rw [h1, List.take_left' rfl, readP_enc h hf]
end Go.Proofs.Ytkganajbilnanaa
