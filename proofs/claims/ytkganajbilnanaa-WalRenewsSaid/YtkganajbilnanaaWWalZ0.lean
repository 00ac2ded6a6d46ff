/- wal: what Open finds. Conditions: the device lies there. -/
import Derived.Test.YtkganajbilnanaaWWalW
import Derived.Test.YtkganajbilnanaaWWalN
namespace Go.Proofs.Ytkganajbilnanaa
open Go.ChangeShapes Go.WideShapes Go.ChangeAt Go.RowKit
open NumMath
set_option linter.unusedVariables false
set_option linter.unusedSimpArgs false
set_option maxRecDepth 20000

/-- a device of bytes -/
def DevP.small (D : DevP) : Prop := ∀ n, n < 2 → ∀ s ∈ D.f n, Small s.last ∧ ∀ l ∈ s.waits, Small l
theorem IsDev.small {D : DevP} {w : World} {F : Nat → Prop} {p : Value} (h : IsDev D w F p) : D.small := by
  obtain ⟨gp, s, lv, X, rfl, h⟩ := h
  intro n hn sc hsc
  obtain ⟨i, hi, rfl⟩ := List.mem_iff_getElem.1 hsc
  obtain ⟨lw, wv, -, -, ht, L, how, -, hw⟩ := (h.file n hn).2.2 i _ (List.getElem?_eq_getElem hi)
  refine ⟨ht.bytes.choose_spec.choose_spec.2.2.2, fun l hl => ?_⟩
  obtain ⟨j, hj, rfl⟩ := List.mem_iff_getElem.1 hl
  have hjL : j < L.length := by have := how.1; omega
  exact (hw j _ _ (List.getElem?_eq_getElem hjL) (List.getElem?_eq_getElem hj)).bytes.choose_spec.choose_spec.2.2.2
theorem DevP.small.newest {D : DevP} (h : D.small) {k : Nat} (hk : k < (D.f 0).length) : Small (D.sect 0 k).newest := by
  obtain ⟨h1, h2⟩ := h 0 (by omega) _ (List.getElem_mem hk)
  rw [DevP.sect_eq hk]
  unfold Sect.newest
  cases hg : (D.f 0)[k].waits.getLast? with
  | none => exact h1
  | some l => exact h2 l (List.mem_of_getLast? hg)
theorem DevP.small.read {D : DevP} (h : D.small) (i : Int) : Small (D.read 0 i).1 := by
  unfold DevP.read
  split
  · rename_i hh
    obtain ⟨h1, h2, h3⟩ := hh
    exact h.newest (by omega)
  · intro x hx; cases hx
/-- a header that may count -/
structure HeadP.may (h : HeadP) : Prop where
  fits : h.Fits
  area : h.area < 2
  lo : 1 ≤ h.base
  hi : h.base ≤ 9223372036854775808
theorem isHead_may {b : List Nat} (hs : Small b) (h : isHead b = true) : (wheadP b).may ∧ (wheadP b).stamp ≠ 0 := by
  unfold isHead at h
  simp only [Bool.and_eq_true, decide_eq_true_iff] at h
  obtain ⟨h1, h2, h3, h4⟩ := h
  have hf := wheadP_fits hs
  have := hf.2.1
  exact ⟨⟨hf, h3, by omega, by omega⟩, h1⟩
theorem find_may {D : DevP} (hs : D.small) : ∀ k, (findK D k).1.stamp = 0 ∨ ((findK D k).1.may ∧ (findK D k).2 < k) := by
  intro k
  induction k with
  | zero => exact .inl rfl
  | succ k ih =>
    show (findStep D k (findK D k)).1.stamp = 0 ∨ _
    have : findK D (k + 1) = findStep D k (findK D k) := rfl
    rw [this]
    unfold findStep
    dsimp only
    split
    · rename_i q
      exact .inr ⟨(isHead_may (hs.read _) q.1).1, Nat.lt_succ_self k⟩
    · exact ih.imp id fun q => ⟨q.1, Nat.lt_succ_of_lt q.2⟩
theorem findP_may {D : DevP} (hs : D.small) (h : 0 < (findP D).1.stamp) : (findP D).1.may ∧ (findP D).2 ≤ 1 := by
  have := find_may hs 2
  rw [findK_two] at this
  rcases this with q | q
  · omega
  · exact ⟨q.1, by omega⟩
theorem area_small {D : DevP} (hs : D.small) (p n : Nat) : ∀ l ∈ areaP D p n, Small l := by
  intro l hl
  unfold areaP at hl
  obtain ⟨i, -, rfl⟩ := List.mem_map.1 hl
  exact hs.read _
theorem area_length (D : DevP) (p n : Nat) : (areaP D p n).length = n := by unfold areaP; simp
/-- the records that are read are good, if their numbers fit -/
theorem recs_front : ∀ (n : Nat) (l : List Nat), l.length ≤ n → Small l → (recsOf l).flatMap encL = l.take ((recsOf l).flatMap encL).length := by
  intro n
  induction n with
  | zero =>
    intro l h hs
    have : l = [] := List.eq_nil_of_length_eq_zero (by omega)
    subst this
    rfl
  | succ n ih =>
    intro l h hs
    cases hd : decR l with
    | none => rw [recsOf_none hd]; rfl
    | some r =>
      obtain ⟨hok, hn, he⟩ := decR_enc hd hs
      have h27 := (encL_len hok).1
      obtain ⟨q1, q2, q3, q4⟩ := decR_some hd
      have ih' := ih (l.drop (decN l)) (by rw [List.length_drop]; omega) fun x hx => hs x (List.mem_of_mem_drop hx)
      rw [recsOf_some hd, List.flatMap_cons, List.length_append]
      have key : ∀ m, l.take ((encL r).length + m) = encL r ++ (l.drop (decN l)).take m := fun m => by
        conv => lhs; rw [he]
        rw [List.take_append, List.take_of_length_le (by omega), Nat.add_sub_cancel_left]
      rw [key, ← ih']
theorem open_len {D : DevP} (hs : D.small) : ((openR D).flatMap encL).length ≤ 127 * ((D.size 0 - 2) / 2) := by
  unfold openR
  have h1 := readL_length (areaP D (2 + (findP D).1.area * ((D.size 0 - 2) / 2)) ((D.size 0 - 2) / 2))
  rw [area_length] at h1
  have h2 := recs_front _ _ (Nat.le_refl _) (readL_small _ (area_small hs (2 + (findP D).1.area * ((D.size 0 - 2) / 2)) ((D.size 0 - 2) / 2)))
  have h3 := congrArg List.length h2
  rw [List.length_take] at h3
  omega
theorem open_fit {D : DevP} (hs : D.small) (hz : D.size 0 ≤ 1400) (h : 0 < (findP D).1.stamp) (hg : GoodR (openR D)) : (openL D).fit (openR D) := by
  obtain ⟨hm, hl⟩ := findP_may hs h
  have hlen := open_len hs
  have hhi := hm.hi
  exact ⟨by show (D.size 0 - 2) / 2 ≤ 700; omega, hm.fits, hm.area, hl, by show ((openR D).flatMap encL).length ≤ (D.size 0 - 2) / 2 * 127; omega, Nat.le_refl _,
    by show (findP D).1.base + ((openR D).flatMap encL).length < _; omega, ⟨rfl, rfl, hg⟩⟩
theorem bytes_sliced {w : World} {B : Nat} {A : Option Addr} {l : List Nat} (h : Bytes w B A l) {x c : Nat} (hc : l.length ≤ c) : Bytes w B (if c = x then A else A.map fun a => a.add x) (l.drop x) := by
  rcases Nat.lt_or_ge x l.length with z | z
  · rw [if_neg (by omega)]
    obtain ⟨b, o, rfl, -⟩ := h.1 0 (by rw [List.length_map]; omega)
    have := h.drop x
    show Bytes w B (some ((⟨b, o, none⟩ : Addr).add x)) _
    rw [addr_add]
    exact this
  · rw [List.drop_of_length_le z]
    exact Bytes.nil _ _ _
/-- what Decode says of bytes -/
theorem decode_loop {A : Option Addr} {c : Nat} {l : List Nat} {w : World} (h : Bytes w w.heap.size A l) (hc : l.length ≤ c) (hl : l.length ≤ 100000) :
    Calls Try.prog 41 #[.slice A l.length c] w fun e w' => Below w.heap.size w w' ∧ ∃ (r : RecP) (m : RecMm) (n no : Nat), e = .returned (.tuple #[.agg (recA r m), .int .i64 (n : Nat), .int .u16 (no : Nat)]) ∧
      ((no ≠ 0 ∧ no < 100 ∧ decR l = none) ∨ (no = 0 ∧ n = decN l ∧ decR l = some r ∧ r.Fits)) := by
  refine (decode_any h hc hl).mono ?_
  rintro e w' ⟨hb, hor⟩
  refine ⟨hb, ?_⟩
  rcases hor with ⟨q, e1⟩ | ⟨q1, q2, q3, hor⟩
  · refine ⟨recZ, memZ, 0, 60, e1, .inl ⟨by decide, by decide, ?_⟩⟩
    unfold decR
    rw [if_neg (by omega)]
  · have hd : decR l = readP (l.take (decN l)) := by unfold decR; rw [if_pos ⟨q1, q2, q3⟩]
    rcases hor with ⟨z, e1⟩ | ⟨r, m, z, e1, hfr⟩
    · exact ⟨recZ, memZ, 0, 61, e1, .inl ⟨by decide, by decide, by rw [hd, z]⟩⟩
    · exact ⟨r, m, _, 0, e1, .inr ⟨rfl, rfl, by rw [hd, z], hfr.at_.fits⟩⟩
/-- lasts is counted on -/
theorem Lg.lasts {L : LogP} {D : DevP} {w : World} {F G : Nat → Prop} {gl : Nat} {pd sv st : Value} (h : Lg L D w F G gl pd sv st) (x : Nat) : Lg { L with lasts := x } D (w.setCell ⟨gl, 9, none⟩ (.int .i64 (x : Nat))) F G gl pd sv st ∧ Only (fun b => b = gl) w (w.setCell ⟨gl, 9, none⟩ (.int .i64 (x : Nat))) := by
  have o : Only (fun b => b = gl) w (w.setCell ⟨gl, 9, none⟩ (.int .i64 (x : Nat))) := (Only.refl (fun b => b = gl) w).setCell (p := ⟨gl, 9, none⟩) (.inl rfl) _
  exact ⟨h.box o (h.log.blk.set_ 9 _) rfl rfl, o⟩
theorem AtIn.take {w : World} {S : Nat → Prop} {A : Option Addr} {xs : List Value} (h : AtIn w S A xs) (n : Nat) : AtIn w S A (xs.take n) := fun j hj => by
  obtain ⟨b, o, e, h1, h2, hc⟩ := h j (by rw [List.length_take] at hj; omega)
  exact ⟨b, o, e, h1, h2, by rw [hc, List.getElem_take]⟩
/-- a front of a row of one's own, without room -/
theorem txt_take {w : World} {A : Option Addr} {n c base : Nat} {l : List Nat} (ho : w.ownsRow base 5 1 (.slice A n c) n (l.map byteV)) (hn : l.length = n) (hs : Small l) {x : Nat} (hx : x ≤ n) : Txt w (fun b => (Value.slice A n c).ownBlock = some b) (.slice A x x) (l.take x) := by
  obtain ⟨A1, c1, e, hc, hb⟩ := Txt.own (F := fun b => (Value.slice A n c).ownBlock = some b) ho hn hs fun b e => e
  injection e with e1 e2 e3
  subst e1
  refine ⟨A, x, by rw [List.length_take, hn, Nat.min_eq_left hx], by rw [List.length_take]; omega, ?_, fun y hy => hs y (List.mem_of_mem_take hy)⟩
  rw [List.map_take]
  exact hb.1.take x
/-- the stream is set -/
theorem Lg.setStream {L : LogP} {D : DevP} {w : World} {F G X : Nat → Prop} {gl : Nat} {pd sv st v : Value} {l : List Nat} (h : Lg L D w F G gl pd sv st) (ht : Txt w X v l) (hv : ∃ A, v = .slice A l.length l.length) (hX : ∀ b, X b → ¬ F b ∧ b < w.heap.size) :
    Lg { L with stream := l } D (w.setCell ⟨gl, 7, none⟩ v) F (fun b => G b ∨ X b) gl pd v st ∧ Only (fun b => b = gl) w (w.setCell ⟨gl, 7, none⟩ v) := by
  have o : Only (fun b => b = gl) w (w.setCell ⟨gl, 7, none⟩ v) := (Only.refl (fun b => b = gl) w).setCell (p := ⟨gl, 7, none⟩) (.inl rfl) _
  have hgl : Ty w gl 75 := h.log.blk.ty
  refine ⟨⟨h.dev.only o fun b q e => by subst e; exact h.dis b q h.log.inG, ⟨h.log.blk.set_ 7 _, .inl h.log.inG, ⟨(ht.only o fun b _ hu e => by subst e; exact absurd (hu.uniq' hgl) (by decide)).mono fun b q _ => .inr q, .inr hv⟩, o.own h.log.strt fun k e q => by subst q; exact absurd ((own_ty h.log.strt e).uniq hgl) (by decide), fun b e => .inl (h.log.strtG b e)⟩, ?_, ?_, ?_⟩, o⟩
  · intro b q q'
    rcases q' with z | z
    · exact h.dis b q z
    · exact (hX b z).1 q
  · exact fun b q => Nat.lt_of_lt_of_le (h.hiF b q) o.size
  · intro b q
    rcases q with z | z
    · exact Nat.lt_of_lt_of_le (h.hiG b z) o.size
    · exact Nat.lt_of_lt_of_le (hX b z).2 o.size
theorem lay_128 (l : List Nat) : ∀ s ∈ layOf l, s.length = 128 := fun s hs => by
  unfold layOf at hs
  obtain ⟨k, -, rfl⟩ := List.mem_map.1 hs
  exact sectorOf_length (by unfold chunkOf; rw [List.length_take]; omega)
/-- rows just laid, as what is wanted -/
theorem rows_outs {w w' : World} {F : Nat → Prop} (hF : ∀ b, F b → b < w.heap.size) {A : Option Addr} {n c : Nat} {L : List Value} {ls : List (List Nat)} (ho : w'.ownsRow w.heap.size 26 1 (.slice A n c) n L) (hr : Rows w' w.heap.size L ls) : AtIn w' (fun b => ¬ F b) A L ∧ Outs w' F L ls := by
  refine ⟨(AtIn.own ho).mono fun b q z => ?_, hr.1, fun j l hl => ?_⟩
  · have := (ho.lt b q.symm).1
    have := hF b z
    omega
  · have hj : j < L.length := by rw [hr.1]; exact (List.getElem?_eq_some_iff.1 hl).1
    obtain ⟨⟨A1, c1, e⟩, h2, h3⟩ := hr.2 j _ l (List.getElem?_eq_getElem hj) hl
    rw [e] at h2
    exact ⟨_, by rw [List.getElem?_eq_getElem hj, e], OutT.own h2 rfl h3 hF⟩
def OpenPost (D : DevP) (F : Nat → Prop) (pd : Value) (w : World) (e : Ending) (w' : World) : Prop :=
  (opens D = false ∧ e = .returned (.tuple #[.pointer none, .int .u16 82]) ∧ Below w.heap.size w w') ∨
    (opens D = true ∧ GoodR (openR D) ∧ ∃ gl, e = .returned (.tuple #[.pointer (some ⟨gl, 0, none⟩), .int .u16 0]) ∧ LgPost (openL D) (openD D) F (fun _ => False) gl pd w w')
end Go.Proofs.Ytkganajbilnanaa
