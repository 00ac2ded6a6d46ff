/- The log, plain: Open. Conditions: none; no program in sight. -/
import Derived.Test.YtkganajbilnanaaGreatYWV
import Derived.StillTailTactics
set_option linter.unusedVariables false
set_option linter.unusedSimpArgs false
namespace Go.Proofs.YtkganajbilnanaaGreat
open NumMath
def decR (l : List Nat) : Option RecP := if 27 ≤ l.length ∧ 1 ≤ decN l ∧ decN l ≤ l.length then readP (l.take (decN l)) else none
def parseR : Nat → List Nat → List RecP
  | 0, _ => []
  | f + 1, l => match decR l with
    | none => []
    | some r => r :: parseR f (l.drop (decN l))
def recsOf (l : List Nat) : List RecP := parseR l.length l
theorem decR_some {l : List Nat} {r : RecP} (h : decR l = some r) : 27 ≤ l.length ∧ 1 ≤ decN l ∧ decN l ≤ l.length ∧ readP (l.take (decN l)) = some r := by
  unfold decR at h
  split at h
  · rename_i q
    exact ⟨q.1, q.2.1, q.2.2, h⟩
  · cases h
theorem parseR_fuel : ∀ (n f : Nat) (l : List Nat), l.length ≤ n → l.length ≤ f → parseR f l = parseR l.length l := by
  intro n
  induction n with
  | zero =>
    intro f l h1 h2
    have : l = [] := List.eq_nil_of_length_eq_zero (by omega)
    subst this
    cases f with
    | zero => rfl
    | succ f => simp [parseR, decR]
  | succ n ih =>
    intro f l h1 h2
    cases hd : decR l with
    | none =>
      cases f <;> cases hl : l.length <;> simp [parseR, hd]
    | some r =>
      obtain ⟨q1, q2, q3, q4⟩ := decR_some hd
      obtain ⟨f', rfl⟩ : ∃ f', f = f' + 1 := ⟨f - 1, by omega⟩
      obtain ⟨g, hg⟩ : ∃ g, l.length = g + 1 := ⟨l.length - 1, by omega⟩
      rw [hg]
      simp only [parseR, hd]
      have hdl : (l.drop (decN l)).length ≤ g := by rw [List.length_drop]; omega
      rw [ih f' _ (by omega) (by omega), ih g _ (by omega) hdl]
theorem recsOf_some {l : List Nat} {r : RecP} (h : decR l = some r) : recsOf l = r :: recsOf (l.drop (decN l)) := by
  obtain ⟨q1, q2, q3, q4⟩ := decR_some h
  unfold recsOf
  obtain ⟨g, hg⟩ : ∃ g, l.length = g + 1 := ⟨l.length - 1, by omega⟩
  rw [hg]
  simp only [parseR, h]
  rw [parseR_fuel g g _ (by rw [List.length_drop]; omega) (by rw [List.length_drop]; omega)]
theorem recsOf_none {l : List Nat} (h : decR l = none) : recsOf l = [] := by
  unfold recsOf
  cases hl : l.length <;> simp [parseR, h]
theorem decR_enc {l : List Nat} {r : RecP} (h : decR l = some r) (hs : Small l) : okR r = true ∧ decN l = (encL r).length ∧ l = encL r ++ l.drop (decN l) := by
  obtain ⟨q1, q2, q3, q4⟩ := decR_some h
  have hst : Small (l.take (decN l)) := fun x hx => hs x (List.mem_of_mem_take hx)
  have hok := (readP_inv q4 hst).1
  have h2 := (readP_inv q4 hst).2.2
  have hdn : decN (l.take (decN l)) = decN l := by
    unfold decN at h2 ⊢
    rw [List.length_take] at h2
    rw [List.take_take, Nat.min_eq_left (by omega)]
  have he := enc_readP q4 hst (by rw [hdn, List.length_take]; omega)
  refine ⟨hok, ?_, ?_⟩
  · have := congrArg List.length he
    rw [List.length_take] at this
    omega
  · rw [← he, List.take_append_drop]
theorem decR_of_enc {r : RecP} (h : okR r = true) (hf : r.Fits) (rest : List Nat) : decR (encL r ++ rest) = some r := by
  obtain ⟨d1, d2⟩ := dec_enc h hf rest
  have := (encL_len h).1
  unfold decR
  rw [if_pos (by rw [d1, List.length_append]; omega)]
  exact d2
theorem recsOf_enc {rs : List RecP} (h : GoodR rs) (rest : List Nat) : recsOf (rs.flatMap encL ++ rest) = rs ++ recsOf rest := by
  induction rs with
  | nil => rfl
  | cons r rs ih =>
    obtain ⟨h1, h2⟩ := h r (by simp)
    rw [List.flatMap_cons, List.append_assoc, recsOf_some (decR_of_enc h1 h2 _), (dec_enc h1 h2 _).1, List.drop_left' rfl, ih fun x hx => h x (by simp [hx])]
    rfl
def areaP (D : DevP) (p n : Nat) : List (List Nat) := (List.range n).map fun i => (D.read 0 ((p + i : Nat) : Int)).1
def openR (D : DevP) : List RecP := recsOf (readL (areaP D (2 + (findP D).1.area * ((D.size 0 - 2) / 2)) ((D.size 0 - 2) / 2)))
def openL (D : DevP) : LogP := ⟨(findP D).1, (D.size 0 - 2) / 2, (findP D).2, (openR D).flatMap encL, offs 0 (openR D), ((openR D).flatMap encL).length⟩
def openD (D : DevP) : DevP := makeP D (2 + (findP D).1.area * ((D.size 0 - 2) / 2)) ((D.size 0 - 2) / 2) (layOf ((openR D).flatMap encL))
def opens (D : DevP) : Bool := decide (18 ≤ D.size 0) && decide (0 < (findP D).1.stamp)
end Go.Proofs.YtkganajbilnanaaGreat
namespace Go.Proofs.YtkganajbilnanaaGreat
open Go.ChangeShapes Go.WideShapes Go.ChangeAt Go.RowKit
open NumMath
set_option maxRecDepth 20000
def DevP.small (D : DevP) : Prop := ∀ n, n < 2 → ∀ s ∈ D.f n, Small s.last ∧ ∀ l ∈ s.waits, Small l
theorem IsDev.small {D : DevP} {w : World} {F : Nat → Prop} {p : Value} (h : IsDev D w F p) : D.small := by
  obtain ⟨gp, s, lv, X, rfl, h⟩ := h
  intro n hn sc hsc
  obtain ⟨i, hi, rfl⟩ := List.mem_iff_getElem.1 hsc
  obtain ⟨lw, wv, -, -, ht, L, how, -, hw⟩ := (h.file n hn).2.2 i _ (List.getElem?_eq_getElem hi)
  refine ⟨ht.bytes.choose_spec.choose_spec.2.2.2, fun l hl => ?_⟩
  obtain ⟨j, hj, rfl⟩ := List.mem_iff_getElem.1 hl
  have hjL : j < L.length := by have := how.1; omega
  exact (hw j _ _ (List.getElem?_eq_getElem hjL) (List.getElem?_eq_getElem hj)).bytes.choose_spec.choose_spec.2.2.2
theorem DevP.small.newest {D : DevP} (h : D.small) {k : Nat} (hk : k < (D.f 0).length) : Small (D.sect 0 k).newest := by
  obtain ⟨h1, h2⟩ := h 0 (by omega) _ (List.getElem_mem hk)
  rw [DevP.sect_eq hk]
  unfold Sect.newest
  cases hg : (D.f 0)[k].waits.getLast? with
  | none => exact h1
  | some l => exact h2 l (List.mem_of_getLast? hg)
theorem DevP.small.read {D : DevP} (h : D.small) (i : Int) : Small (D.read 0 i).1 := by
  unfold DevP.read
  split
  · rename_i hh
    obtain ⟨h1, h2, h3⟩ := hh
    exact h.newest (by omega)
  · intro x hx; cases hx
structure HeadP.may (h : HeadP) : Prop where
  fits : h.Fits
  area : h.area < 2
  lo : 1 ≤ h.base
  hi : h.base ≤ 9223372036854775808
theorem isHead_may {b : List Nat} (hs : Small b) (h : isHead b = true) : (wheadP b).may ∧ (wheadP b).stamp ≠ 0 := by
  unfold isHead at h
  simp only [Bool.and_eq_true, decide_eq_true_iff] at h
  obtain ⟨h1, h2, h3, h4⟩ := h
  have hf := wheadP_fits hs
  have := hf.2.1
  exact ⟨⟨hf, h3, by omega, by omega⟩, h1⟩
theorem find_may {D : DevP} (hs : D.small) : ∀ k, (findK D k).1.stamp = 0 ∨ ((findK D k).1.may ∧ (findK D k).2 < k) := by
  intro k
  induction k with
  | zero => exact .inl rfl
  | succ k ih =>
    show (findStep D k (findK D k)).1.stamp = 0 ∨ _
    have : findK D (k + 1) = findStep D k (findK D k) := rfl
    rw [this]
    unfold findStep
    dsimp only
    split
    · rename_i q
      exact .inr ⟨(isHead_may (hs.read _) q.1).1, Nat.lt_succ_self k⟩
    · exact ih.imp id fun q => ⟨q.1, Nat.lt_succ_of_lt q.2⟩
theorem findP_may {D : DevP} (hs : D.small) (h : 0 < (findP D).1.stamp) : (findP D).1.may ∧ (findP D).2 ≤ 1 := by
  have := find_may hs 2
  rw [findK_two] at this
  rcases this with q | q
  · omega
  · exact ⟨q.1, by omega⟩
theorem area_small {D : DevP} (hs : D.small) (p n : Nat) : ∀ l ∈ areaP D p n, Small l := by
  intro l hl
  unfold areaP at hl
  obtain ⟨i, -, rfl⟩ := List.mem_map.1 hl
  exact hs.read _
theorem area_length (D : DevP) (p n : Nat) : (areaP D p n).length = n := by unfold areaP; simp
theorem recs_front : ∀ (n : Nat) (l : List Nat), l.length ≤ n → Small l → (recsOf l).flatMap encL = l.take ((recsOf l).flatMap encL).length := by
  intro n
  induction n with
  | zero =>
    intro l h hs
    have : l = [] := List.eq_nil_of_length_eq_zero (by omega)
    subst this
    rfl
  | succ n ih =>
    intro l h hs
    cases hd : decR l with
    | none => rw [recsOf_none hd]; rfl
    | some r =>
      obtain ⟨hok, hn, he⟩ := decR_enc hd hs
      have h27 := (encL_len hok).1
      obtain ⟨q1, q2, q3, q4⟩ := decR_some hd
      have ih' := ih (l.drop (decN l)) (by rw [List.length_drop]; omega) fun x hx => hs x (List.mem_of_mem_drop hx)
      rw [recsOf_some hd, List.flatMap_cons, List.length_append]
      have key : ∀ m, l.take ((encL r).length + m) = encL r ++ (l.drop (decN l)).take m := fun m => by
        conv => lhs; rw [he]
        rw [List.take_append, List.take_of_length_le (by omega), Nat.add_sub_cancel_left]
      rw [key, ← ih']
theorem open_len {D : DevP} (hs : D.small) : ((openR D).flatMap encL).length ≤ 127 * ((D.size 0 - 2) / 2) := by
  unfold openR
  have h1 := readL_length (areaP D (2 + (findP D).1.area * ((D.size 0 - 2) / 2)) ((D.size 0 - 2) / 2))
  rw [area_length] at h1
  have h2 := recs_front _ _ (Nat.le_refl _) (readL_small _ (area_small hs (2 + (findP D).1.area * ((D.size 0 - 2) / 2)) ((D.size 0 - 2) / 2)))
  have h3 := congrArg List.length h2
  rw [List.length_take] at h3
  omega
theorem open_fit {D : DevP} (hs : D.small) (hz : D.size 0 ≤ 1400) (h : 0 < (findP D).1.stamp) (hg : GoodR (openR D)) : (openL D).fit (openR D) := by
  obtain ⟨hm, hl⟩ := findP_may hs h
  have hlen := open_len hs
  have hhi := hm.hi
  exact ⟨by show (D.size 0 - 2) / 2 ≤ 700; omega, hm.fits, hm.area, hl, by show ((openR D).flatMap encL).length ≤ (D.size 0 - 2) / 2 * 127; omega, Nat.le_refl _,
    by show (findP D).1.base + ((openR D).flatMap encL).length < _; omega, ⟨rfl, rfl, hg⟩⟩
theorem bytes_sliced {w : World} {B : Nat} {A : Option Addr} {l : List Nat} (h : Bytes w B A l) {x c : Nat} (hc : l.length ≤ c) : Bytes w B (if c = x then A else A.map fun a => a.add x) (l.drop x) := by
  rcases Nat.lt_or_ge x l.length with z | z
  · rw [if_neg (by omega)]
    obtain ⟨b, o, rfl, -⟩ := h.1 0 (by rw [List.length_map]; omega)
    have := h.drop x
    show Bytes w B (some ((⟨b, o, none⟩ : Addr).add x)) _
    rw [addr_add]
    exact this
  · rw [List.drop_of_length_le z]
    exact Bytes.nil _ _ _
theorem decode_loop {A : Option Addr} {c : Nat} {l : List Nat} {w : World} (h : Bytes w w.heap.size A l) (hc : l.length ≤ c) (hl : l.length ≤ 100000) :
    Calls Tryz.prog 28 #[.slice A l.length c] w fun e w' => Below w.heap.size w w' ∧ ∃ (r : RecP) (m : RecMm) (n no : Nat), e = .returned (.tuple #[.agg (recA r m), .int .i64 (n : Nat), .int .u16 (no : Nat)]) ∧
      ((no ≠ 0 ∧ no < 100 ∧ decR l = none) ∨ (no = 0 ∧ n = decN l ∧ decR l = some r ∧ r.Fits)) := by
  refine (decode_any h hc hl).mono ?_
  rintro e w' ⟨hb, hor⟩
  refine ⟨hb, ?_⟩
  rcases hor with ⟨q, e1⟩ | ⟨q1, q2, q3, hor⟩
  · refine ⟨recZ, memZ, 0, 60, e1, .inl ⟨by decide, by decide, ?_⟩⟩
    unfold decR
    rw [if_neg (by omega)]
  · have hd : decR l = readP (l.take (decN l)) := by unfold decR; rw [if_pos ⟨q1, q2, q3⟩]
    rcases hor with ⟨z, e1⟩ | ⟨r, m, z, e1, hfr⟩
    · exact ⟨recZ, memZ, 0, 61, e1, .inl ⟨by decide, by decide, by rw [hd, z]⟩⟩
    · exact ⟨r, m, _, 0, e1, .inr ⟨rfl, rfl, by rw [hd, z], hfr.at_.fits⟩⟩
theorem Lg.lasts {L : LogP} {D : DevP} {w : World} {F G : Nat → Prop} {gl : Nat} {pd sv st : Value} (h : Lg L D w F G gl pd sv st) (x : Nat) : Lg { L with lasts := x } D (w.setCell ⟨gl, 9, none⟩ (.int .i64 (x : Nat))) F G gl pd sv st ∧ Only (fun b => b = gl) w (w.setCell ⟨gl, 9, none⟩ (.int .i64 (x : Nat))) := by
  have o : Only (fun b => b = gl) w (w.setCell ⟨gl, 9, none⟩ (.int .i64 (x : Nat))) := (Only.refl (fun b => b = gl) w).setCell (p := ⟨gl, 9, none⟩) (.inl rfl) _
  exact ⟨h.box o (h.log.blk.set_ 9 _) rfl rfl, o⟩
theorem AtIn.take {w : World} {S : Nat → Prop} {A : Option Addr} {xs : List Value} (h : AtIn w S A xs) (n : Nat) : AtIn w S A (xs.take n) := fun j hj => by
  obtain ⟨b, o, e, h1, h2, hc⟩ := h j (by rw [List.length_take] at hj; omega)
  exact ⟨b, o, e, h1, h2, by rw [hc, List.getElem_take]⟩
theorem txt_take {w : World} {A : Option Addr} {n c base : Nat} {l : List Nat} (ho : w.ownsRow base 5 1 (.slice A n c) n (l.map byteV)) (hn : l.length = n) (hs : Small l) {x : Nat} (hx : x ≤ n) : Txt w (fun b => (Value.slice A n c).ownBlock = some b) (.slice A x x) (l.take x) := by
  obtain ⟨A1, c1, e, hc, hb⟩ := Txt.own (F := fun b => (Value.slice A n c).ownBlock = some b) ho hn hs fun b e => e
  injection e with e1 e2 e3
  subst e1
  refine ⟨A, x, by rw [List.length_take, hn, Nat.min_eq_left hx], by rw [List.length_take]; omega, ?_, fun y hy => hs y (List.mem_of_mem_take hy)⟩
  rw [List.map_take]
  exact hb.1.take x
theorem Lg.setStream {L : LogP} {D : DevP} {w : World} {F G X : Nat → Prop} {gl : Nat} {pd sv st v : Value} {l : List Nat} (h : Lg L D w F G gl pd sv st) (ht : Txt w X v l) (hv : ∃ A, v = .slice A l.length l.length) (hX : ∀ b, X b → ¬ F b ∧ b < w.heap.size) :
    Lg { L with stream := l } D (w.setCell ⟨gl, 7, none⟩ v) F (fun b => G b ∨ X b) gl pd v st ∧ Only (fun b => b = gl) w (w.setCell ⟨gl, 7, none⟩ v) := by
  have o : Only (fun b => b = gl) w (w.setCell ⟨gl, 7, none⟩ v) := (Only.refl (fun b => b = gl) w).setCell (p := ⟨gl, 7, none⟩) (.inl rfl) _
  have hgl : Ty w gl 82 := h.log.blk.ty
  refine ⟨⟨h.dev.only o fun b q e => by subst e; exact h.dis b q h.log.inG, ⟨h.log.blk.set_ 7 _, .inl h.log.inG, ⟨(ht.only o fun b _ hu e => by subst e; exact absurd (hu.uniq' hgl) (by decide)).mono fun b q _ => .inr q, .inr hv⟩, o.own h.log.strt fun k e q => by subst q; exact absurd ((own_ty h.log.strt e).uniq hgl) (by decide), fun b e => .inl (h.log.strtG b e)⟩, ?_, ?_, ?_⟩, o⟩
  · intro b q q'
    rcases q' with z | z
    · exact h.dis b q z
    · exact (hX b z).1 q
  · exact fun b q => Nat.lt_of_lt_of_le (h.hiF b q) o.size
  · intro b q
    rcases q with z | z
    · exact Nat.lt_of_lt_of_le (h.hiG b z) o.size
    · exact Nat.lt_of_lt_of_le (hX b z).2 o.size
theorem lay_128 (l : List Nat) : ∀ s ∈ layOf l, s.length = 128 := fun s hs => by
  unfold layOf at hs
  obtain ⟨k, -, rfl⟩ := List.mem_map.1 hs
  exact sectorOf_length (by unfold chunkOf; rw [List.length_take]; omega)
theorem rows_outs {w w' : World} {F : Nat → Prop} (hF : ∀ b, F b → b < w.heap.size) {A : Option Addr} {n c : Nat} {L : List Value} {ls : List (List Nat)} (ho : w'.ownsRow w.heap.size 45 1 (.slice A n c) n L) (hr : Rows w' w.heap.size L ls) : AtIn w' (fun b => ¬ F b) A L ∧ Outs w' F L ls := by
  refine ⟨(AtIn.own ho).mono fun b q z => ?_, hr.1, fun j l hl => ?_⟩
  · have := (ho.lt b q.symm).1
    have := hF b z
    omega
  · have hj : j < L.length := by rw [hr.1]; exact (List.getElem?_eq_some_iff.1 hl).1
    obtain ⟨⟨A1, c1, e⟩, h2, h3⟩ := hr.2 j _ l (List.getElem?_eq_getElem hj) hl
    rw [e] at h2
    exact ⟨_, by rw [List.getElem?_eq_getElem hj, e], OutT.own h2 rfl h3 hF⟩
def OpenPost (D : DevP) (F : Nat → Prop) (pd : Value) (w : World) (e : Ending) (w' : World) : Prop :=
  (opens D = false ∧ e = .returned (.tuple #[.pointer none, .int .u16 82]) ∧ Below w.heap.size w w') ∨
    (opens D = true ∧ GoodR (openR D) ∧ ∃ gl, e = .returned (.tuple #[.pointer (some ⟨gl, 0, none⟩), .int .u16 0]) ∧ LgPost (openL D) (openD D) F (fun _ => False) gl pd w w')
set_option maxHeartbeats 8000000 in
theorem open_any {D : DevP} {w : World} {F : Nat → Prop} {pd : Value} (h : IsDev D w F pd) (hF : ∀ b, F b → b < w.heap.size) {N : Nat} (hG : D.good N) (hN : N + 6000 ≤ 100000) (hz : D.size 0 ≤ 1400) :
    Calls Tryz.prog 8 #[pd] w (OpenPost D F pd w) := by
  obtain ⟨i0, hi0, hz0, hz1, hz2⟩ := info_parts int_info
  obtain ⟨i1, hi1, hy0, hy1, hy2⟩ := info_parts slice_info
  have hsm := h.small
  have con := on_any h (by omega)
  obtain ⟨gp, s0, lv0, X0, rfl, -⟩ := id h
  go_enter Tryz.func8, Tryz.ntmps8
  go_wp2_with fail
  refine con.mono ?_
  rintro e w2 ⟨hb2, (⟨hlt, rfl⟩ | ⟨hge, rfl, hl⟩)⟩
  · have F1 : Hid (OpenPost D F (.pointer (some ⟨gp, 0, none⟩)) w (.returned (.tuple #[.pointer none, .int .u16 82])) w2) := Lib.hid (.inl ⟨by unfold opens; rw [decide_eq_false (by omega)]; rfl, rfl, hb2⟩)
    clear con hb2 hlt h hF hG hz
    go_wp2
    go_ret2
    exact F1.out
  obtain ⟨gl, hgl⟩ : ∃ gl, w.heap.size = gl := ⟨_, rfl⟩
  rw [hgl] at hl
  rw [hgl]
  have hL2 : Lg (logZ ((D.size 0 - 2) / 2)) D w2 F (fun b => b = gl) gl (.pointer (some ⟨gp, 0, none⟩)) (.slice none 0 0) (.slice none 0 0) := by
    refine ⟨h.below hb2, hl, fun b q e => by have := hF b q; omega, fun b q => Nat.lt_of_lt_of_le (hF b q) hb2.size, fun b e => by rw [e]; exact hl.blk.lt⟩
  have cfi := find_any hL2 hG (by omega) (by have hsz : D.size 0 = (D.f 0).length := rfl; omega)
  clear con
  go_wp2_with fail
  refine cfi.mono ?_
  rintro e w3 ⟨rfl, hL3, hO3⟩
  clear cfi hl
  rcases Nat.eq_zero_or_pos (findP D).1.stamp with hst | hst
  · have F1 : Hid (OpenPost D F (.pointer (some ⟨gp, 0, none⟩)) w (.returned (.tuple #[.pointer none, .int .u16 82])) w3) := Lib.hid (.inl ⟨by unfold opens; rw [hst]; simp, rfl, hb2.trans (hO3.below hb2.size fun b q => by omega)⟩)
    rw [hst]
    clear hL3 hO3 hL2 hst hge h hF hG hz hb2
    go_wp2
    go_ret2
    exact F1.out
  have hop : opens D = true := by unfold opens; rw [decide_eq_true hge, decide_eq_true hst]; rfl
  obtain ⟨hmay, hslot⟩ := findP_may hsm hst
  have hL : openL D = ⟨(findP D).1, (D.size 0 - 2) / 2, (findP D).2, (openR D).flatMap encL, offs 0 (openR D), ((openR D).flatMap encL).length⟩ := rfl
  have hD : openD D = makeP D (2 + (findP D).1.area * ((D.size 0 - 2) / 2)) ((D.size 0 - 2) / 2) (layOf ((openR D).flatMap encL)) := rfl
  have hR : openR D = recsOf (readL (areaP D (2 + (findP D).1.area * ((D.size 0 - 2) / 2)) ((D.size 0 - 2) / 2))) := rfl
  have hlen := open_len hsm
  rw [decide_eq_true hst]
  generalize findP D = fp at *
  obtain ⟨⟨stamp, base, check, area⟩, slot⟩ := fp
  simp only at *
  obtain ⟨s, hs⟩ : ∃ s, (D.size 0 - 2) / 2 = s := ⟨_, rfl⟩
  rw [hs] at hL hD hR hlen hL3
  obtain ⟨p0, hp0⟩ : ∃ p0, 2 + area * s = p0 := ⟨_, rfl⟩
  rw [hp0] at hD hR
  have hs7 : s ≤ 700 := by omega
  have hp3 : p0 ≤ 3000 := by
    have h1 := hmay.area
    simp only at h1
    have h2 : area * s ≤ 1 * 700 := Nat.mul_le_mul (by omega) hs7
    omega
  have HOP := Lib.hid hop
  have HLL := Lib.hid hL
  have HDD := Lib.hid hD
  have HRR := Lib.hid hR
  have HMAY := Lib.hid hmay
  have HP0 := Lib.hid hp0
  have hwO : Only F w w3 := (Only.of_below hb2 F).trans hO3 fun b e => .inr (by omega)
  have HWO := Lib.hid hwO
  have HL3 := Lib.hid hL3
  have HGW : Hid (w.heap.size ≤ gl ∧ gl < w3.heap.size) := Lib.hid ⟨by omega, hL3.log.blk.lt⟩
  have c5 : w3.cell? ⟨gl, 5, none⟩ = some (.int .i64 (s : Nat)) := hL3.log.blk.cell 5
  clear hL hD hR hmay hp0 hwO hop hs hst hslot hge hz hL2 hb2 hO3 h hF hgl hL3
  go_upto_region 7 with (at_make; refine wpList_make_full _ rfl _ _ 22 rfl w3.heap.size 45 i1 _ 1 Tryz.underlying22 hi1 hy0 hy1 .i64 .i64 _ _ s rfl rfl rfl rfl (by rw [hy2]; omega) (by unfold maxLen; omega) (Nat.le_refl _) ?_; intro w4 hown4 hg4)
  obtain ⟨gs, hgs⟩ : ∃ gs, w3.heap.size = gs := ⟨_, rfl⟩
  have hb4 : Below w3.heap.size w3 w4 := (Below.refl _ _).grown hg4 (Nat.le_refl _) (by simp)
  rw [hgs] at hown4 hb4
  rw [hgs]
  have HGS := Lib.hid hgs
  have hgs4 := (hown4.lt gs rfl).2
  clear hg4 c5
  go_wp2_with fail
  go_loopw [30] (fun iv wr => ∃ (i : Nat) (Lv : List Value), i ≤ s ∧ iv = .int .i64 (i : Nat) ∧ wr.ownsRow gs 45 1 (.slice (some ⟨gs, 0, none⟩) s s) s Lv ∧ (∀ (j : Nat) (l : List Nat), j < i → (areaP D p0 s)[j]? = some l → ∃ u, Lv[j]? = some u ∧ Txt wr (fun _ => True) u l) ∧ Below gs w3 wr ∧ gs < wr.heap.size) (fun iv _ => s - (intOf iv).toNat)
  case atStart => exact ⟨0, _, Nat.zero_le _, rfl, hown4, fun j l h => absurd h (by omega), hb4, hgs4⟩
  case round =>
    clear hown4 hb4 hgs4
    obtain ⟨i, Lv, hi, rfl, hown, hrd, hb, hgw⟩ := hrel
    have hbr : Below w3.heap.size w3 wr := by rw [HGS.out]; exact hb
    have hLr := HL3.out.below hbr
    have kr := hLr.log.blk
    rcases Nat.lt_or_ge i s with hlt | hge
    · have e1 : decide ((i : Int) < (s : Int)) = true := by rw [decide_eq_true_iff]; omega
      have e2 : (0 : Int) ≤ (i : Int) := by omega
      have e3 : (i : Int) < (s : Int) := by omega
      obtain ⟨q, hq⟩ : ∃ q, p0 + i = q := ⟨_, rfl⟩
      have V1 : Hid (IntKind.i64.wrap ((p0 : Int) + (i : Int)) = (q : Int)) := Lib.hid (by rw [IntKind.wrap_i64]; omega)
      have c3 : wr.cell? ⟨gl, 3, none⟩ = some (.int .i64 (area : Nat)) := kr.cell 3
      have cf := first_any kr (by show s ≤ 100000; omega) area HMAY.out.area
      rw [show 2 + area * s = p0 from HP0.out] at cf
      have crd := read_any hLr.dev hG (by omega) 0 (by omega) (q : Int)
      have hAr : (areaP D p0 s)[i]? = some (D.read 0 (q : Int)).1 := by
        unfold areaP
        rw [List.getElem?_map, List.getElem?_range hlt, Option.map_some, hq]
      have hln := hown.1
      have NXT : Hid (∀ W A c, W.ownsRow wr.heap.size 5 1 (.slice A (D.read 0 (q : Int)).1.length c) (D.read 0 (q : Int)).1.length ((D.read 0 (q : Int)).1.map byteV) → Below wr.heap.size wr W → Small (D.read 0 (q : Int)).1 → (∃ vv, W.cell? ⟨gs, i, none⟩ = some vv) ∧ W.frozen? ⟨gs, i, none⟩ = false ∧
          ∃ Lv', (W.setCell ⟨gs, i, none⟩ (.slice A (D.read 0 (q : Int)).1.length c)).ownsRow gs 45 1 (.slice (some ⟨gs, 0, none⟩) s s) s Lv' ∧ (∀ (j : Nat) (l : List Nat), j < i + 1 → (areaP D p0 s)[j]? = some l → ∃ u, Lv'[j]? = some u ∧ Txt (W.setCell ⟨gs, i, none⟩ (.slice A (D.read 0 (q : Int)).1.length c)) (fun _ => True) u l) ∧ Below gs w3 (W.setCell ⟨gs, i, none⟩ (.slice A (D.read 0 (q : Int)).1.length c)) ∧ gs < (W.setCell ⟨gs, i, none⟩ (.slice A (D.read 0 (q : Int)).1.length c)).heap.size) := Lib.hid fun W A c ho hW hsm2 => by
        have hk := kept_below hW hown
        have hst := (hk.stored i (.slice A (D.read 0 (q : Int)).1.length c)).1
        have hO : Only (fun b => b = gs) W (W.setCell ⟨gs, i, none⟩ (.slice A (D.read 0 (q : Int)).1.length c)) := (Only.refl (fun b => b = gs) W).setCell (p := ⟨gs, i, none⟩) (.inl rfl) _
        have hty : Ty W gs 45 := own_ty hk rfl
        have hu : ∀ b, True → U8 W b → ¬ b = gs := fun b _ hb8 e => by subst e; exact absurd (hb8.uniq' hty) (by decide)
        refine ⟨⟨_, by rw [hk.cellAt i (by omega), List.getElem?_eq_getElem (by omega)]⟩, hk.frozenAt i, _, hst, fun j l hj hl => ?_, (hb.trans (hW.mono (Nat.le_of_lt hgw))).trans (hO.below (Nat.le_of_lt (Nat.lt_of_lt_of_le hgw hW.size)) fun b e => by omega), Nat.lt_of_lt_of_le hgw (Nat.le_trans hW.size hO.size)⟩
        by_cases hji : j = i
        · subst hji
          rw [hAr] at hl
          injection hl with hl
          subst hl
          exact ⟨_, List.getElem?_set_self (by omega), (Txt.own ho rfl hsm2 fun _ _ => trivial).only hO hu⟩
        · obtain ⟨u, h1, h2⟩ := hrd j l (by omega) hl
          refine ⟨u, by rw [List.getElem?_set_ne (by omega)]; exact h1, (h2.only (Only.of_below hW (fun _ => False)) fun _ _ _ z => z).only hO hu⟩
      generalize (D.read 0 (q : Int)).1 = lr at *
      generalize (D.read 0 (q : Int)).2 = nr at *
      clear hq hbr hLr kr hAr hown hrd hb hgw hln
      have v1 := V1.out
      go_wp2_with fail
      refine cf.mono ?_
      rintro e w5 ⟨rfl, rfl⟩
      clear cf
      go_wp2_with fail
      refine crd.mono ?_
      rintro e w6 ⟨A6, c6, rfl, ho6, hb6, hs6⟩
      obtain ⟨⟨vv, x1⟩, x2, Lv', y1, y2, y3, y4⟩ := NXT.out w6 A6 c6 ho6 hb6 hs6
      have Y := Lib.hid (And.intro y1 (And.intro y2 (And.intro y3 y4)))
      clear crd NXT ho6 hb6 hs6 y1 y2 y3 y4 v1 c3
      go_wp2
      go_roundw
      case rel => exact ⟨i + 1, Lv', by omega, by go_num, Y.out.1, Y.out.2.1, Y.out.2.2.1, Y.out.2.2.2⟩
      case measure => simp [intOf]; omega
    · obtain rfl : i = s := by omega
      have e1 : decide ((i : Int) < (i : Int)) = false := by rw [decide_eq_false_iff_not]; omega
      have hlv : Lv.length = (areaP D p0 i).length := by rw [area_length]; have := hown.1; omega
      have hreads : Reads wr wr.heap.size Lv (areaP D p0 i) := ⟨hlv, fun j l hl => by
        have hj : j < i := by
          have := (List.getElem?_eq_some_iff.1 hl).1
          rw [area_length] at this
          exact this
        obtain ⟨u, h1, h2⟩ := hrd j l hj hl
        obtain ⟨A, c, rfl, hc, hbt⟩ := h2.bytes
        exact ⟨A, c, h1, hc, hbt⟩⟩
      have csr := stread_any (some ⟨gs, 0, none⟩) i Lv (areaP D p0 i) wr.heap.size wr (At.own hown) hreads (Nat.le_refl _) (by rw [area_length]; omega)
      rw [area_length] at csr
      have HLr := Lib.hid hLr
      have HBr := Lib.hid hbr
      have hra : recsOf (readL (areaP D p0 i)) = openR D := HRR.out.symm
      have hal := readL_length (areaP D p0 i)
      rw [area_length] at hal
      generalize readL (areaP D p0 i) = all at *
      clear hlv hreads hown hrd hb hgw hLr kr hbr hi
      go_wp2_with fail
      refine csr.mono ?_
      rintro e w5 ⟨A5, c5, rfl, ho5, hb5, hs5⟩
      have HL5 := Lib.hid (HLr.out.below hb5)
      have hall5 := own_bytes ho5 hs5
      obtain ⟨nA, hnA⟩ : ∃ nA, all.length = nA := ⟨_, rfl⟩
      rw [hnA] at ho5 hal ⊢
      have hcA := own_cap ho5
      have HNA := Lib.hid hnA
      have HO5 := Lib.hid ho5
      have HB5 : Hid (Below w3.heap.size w3 w5) := Lib.hid (HBr.out.trans (hb5.mono HBr.out.size))
      have hnb : nA ≤ 88900 := by omega
      clear csr hb5 ho5 hnA hal
      go_wp2_with fail
      go_loopw [10] (fun _ wr => ∃ (rs' : List RecP) (rest : List Nat) (G' : Nat → Prop) (st' : Value), GoodR rs' ∧ all = rs'.flatMap encL ++ rest ∧ Lg ⟨⟨stamp, base, check, area⟩, i, slot, [], offs 0 rs', (rs'.flatMap encL).length⟩ D wr F G' gl (.pointer (some ⟨gp, 0, none⟩)) (.slice none 0 0) st' ∧ (∀ b, G' b → b = gl ∨ w5.heap.size ≤ b) ∧ Only (fun b => b = gl) w5 wr) (fun _ wr => nA - (intOf ((wr.cell? ⟨gl, 9, none⟩).getD (.int .i64 0))).toNat)
      case atStart => exact ⟨[], all, fun b => b = gl, .slice none 0 0, (fun r hr => by cases hr), rfl, HL5.out, fun b e => .inl e, Only.refl _ _⟩
      case round =>
        obtain ⟨rs', rest, G', st', hgood, hall, hL6, hG6, hO6⟩ := hrel
        rename World => w6
        have hxl : (rs'.flatMap encL).length + rest.length = nA := by rw [← HNA.out, hall, List.length_append]
        have hdrop : all.drop (rs'.flatMap encL).length = rest := by rw [hall]; exact List.drop_left' rfl
        obtain ⟨x, hx⟩ : ∃ x, (rs'.flatMap encL).length = x := ⟨_, rfl⟩
        rw [hx] at hxl hdrop hL6
        have c9 : w6.cell? ⟨gl, 9, none⟩ = some (.int .i64 (x : Nat)) := hL6.log.blk.cell 9
        have b1 : (0 : Int) ≤ (x : Int) := by omega
        have b2 : (x : Int) ≤ (nA : Int) := by omega
        have hb6 : Bytes w6 w6.heap.size A5 all := by
          have how := HO5.out
          have hO := hO6.own how fun b e e' => by
            have h1 := (how.lt b e).1
            have h2 := HGW.out.2
            have h3 := HBr.out.size
            omega
          exact own_bytes hO hs5
        have hbs := bytes_sliced hb6 (x := x) (c := c5) (by rw [HNA.out]; exact hcA)
        rw [hdrop] at hbs
        have CD : Hid (∀ A' c', Bytes w6 w6.heap.size A' rest → nA - x ≤ c' → Calls Tryz.prog 28 #[.slice A' (nA - x) c'] w6 fun e w' => Below w6.heap.size w6 w' ∧ ∃ (r : RecP) (m : RecMm) (n no : Nat), e = .returned (.tuple #[.agg (recA r m), .int .i64 (n : Nat), .int .u16 (no : Nat)]) ∧
          ((no ≠ 0 ∧ no < 100 ∧ decR rest = none) ∨ (no = 0 ∧ n = decN rest ∧ decR rest = some r ∧ r.Fits))) := Lib.hid fun A' c' hA hc' => by
          have := decode_loop (c := c') hA (by omega) (by omega)
          rw [show rest.length = nA - x by omega] at this
          exact this
        have HL6 := Lib.hid hL6
        have HO6 := Lib.hid hO6
        have HX := Lib.hid hx
        clear hL6 hO6 hb6 hdrop hx
        go_upto_region 13 with fail
        go_cut [10, 11] from 53 to 86 (fun v10 v11 wx => ∃ (r : RecP) (m : RecMm) (n no : Nat), v10 = .int .i64 (n : Nat) ∧ v11 = .int .u16 (no : Nat) ∧ ((no ≠ 0 ∧ no < 100 ∧ decR rest = none) ∨ (no = 0 ∧ n = decN rest ∧ decR rest = some r ∧ r.Fits)) ∧ Below w6.heap.size w6 wx)
        case first =>
          go_wp2_with fail
          all_goals
            first | (have hcx : c5 = x := h; subst hcx) | skip
            refine (CD.out _ _ (by first | (rw [if_pos rfl] at hbs; exact hbs) | (rw [if_neg (by assumption)] at hbs; exact hbs)) (by omega)).mono ?_
            rintro e w7 ⟨hb7, r, m, n, no, rfl, hcond⟩
            have hst := store_rec_new w7 r m
            have hb8 := hb7.trans ((below_alloc w7 (.cells (recA r m) 51)).mono hb7.size)
            have HC := Lib.hid (And.intro hcond hb8)
            clear hcond hb8 hb7 hbs CD c9 b1 b2
            go_wp2_with (refine wpList_store_run rfl 51 (.tmp 9) (.tmp 61) _ _ rfl rfl rfl hst ?_; clear hst)
            go_meet
            case rel => exact ⟨r, m, n, no, rfl, rfl, HC.out.1, HC.out.2⟩
        case rest =>
          rename World => w7
          obtain ⟨r, m, n, no, rfl, rfl, hcond, hb7⟩ := hcut
          clear hbs CD c9 b1 b2
          have hL7 := HL6.out.below hb7
          rcases hcond with ⟨hno, hno2, hdn⟩ | ⟨rfl, rfl, hds, hfit⟩
          · have t1 : ((no : Int) != 0) = true := by rw [bne_iff_ne]; omega
            have hrs : openR D = rs' := by rw [← hra, hall, recsOf_enc hgood, recsOf_none hdn, List.append_nil]
            have hxn : x ≤ nA := by omega
            have hstm : (rs'.flatMap encL).length = x := HX.out
            have htake : all.take x = rs'.flatMap encL := by rw [hall]; exact List.take_left' hstm
            have hb7' : Bytes w7 w7.heap.size A5 all := by
              have hO := (HO6.out.trans (Only.of_below hb7 (fun _ => False)) fun b q => q.elim : Only (fun b => b = gl) w5 w7).own HO5.out fun b e e' => by
                have h1 := (HO5.out.lt b e).1
                have h2 := HGW.out.2
                have h3 := HBr.out.size
                omega
              exact own_bytes hO hs5
            have hXF : ∀ b, (Value.slice A5 nA c5).ownBlock = some b → ¬ F b ∧ w3.heap.size ≤ b ∧ b < w5.heap.size := fun b e => by
              have h1 := (HO5.out.lt b e)
              have h3 := HBr.out.size
              exact ⟨fun q => by have := HL3.out.hiF b q; omega, by omega, h1.2⟩
            have ho7 : w7.ownsRow wr.heap.size 5 1 (.slice A5 nA c5) nA (all.map byteV) := (HO6.out.trans (Only.of_below hb7 (fun _ => False)) fun b q => q.elim : Only (fun b => b = gl) w5 w7).own HO5.out fun b e e' => by
                have h1 := (HO5.out.lt b e).1
                have h2 := HGW.out.2
                have h3 := HBr.out.size
                omega
            have htx := txt_take ho7 HNA.out hs5 hxn
            obtain ⟨hL8, hO8⟩ := (hL7.drew).setStream (w := w7.drew) htx ⟨A5, by rw [htake, hstm]⟩ fun b e => ⟨(hXF b e).1, by
              have h1 := (hXF b e).2.2
              have h2 := HO6.out.size
              have h3 := hb7.size
              exact Nat.lt_of_lt_of_le h1 (Nat.le_trans h2 h3)⟩
            have c9' : w7.drew.cell? ⟨gl, 9, none⟩ = some (.int .i64 (x : Nat)) := hL7.log.blk.cell 9
            have c7' : w7.drew.cell? ⟨gl, 7, none⟩ = some (.slice none 0 0) := hL7.log.blk.cell 7
            have z7' : w7.drew.frozen? ⟨gl, 7, none⟩ = false := hL7.log.blk.frozen 7
            have d1 : (0 : Int) ≤ (x : Int) := by omega
            have d2 : (x : Int) ≤ (c5 : Int) := by omega
            have HL8 := Lib.hid hL8
            have H78 : Hid (w7.heap.size ≤ (w7.drew.setCell ⟨gl, 7, none⟩ (.slice A5 x x)).heap.size ∧ Only (fun b => b = gl) w7 (w7.drew.setCell ⟨gl, 7, none⟩ (.slice A5 x x))) := Lib.hid ⟨hO8.size, (Only.of_below (below_drew0 w7) (fun b => b = gl)).trans hO8 fun b q => .inl q⟩
            have HXF := Lib.hid hXF
            have HL7 := Lib.hid hL7
            clear hL8 hO8 htx ho7 hb7' hXF hL7 hall
            go_upto_region 17 with fail
            go_still_tail 11, (by kernel_rfl)
            change wpList _ _ _ _ _ w7.drew
            go_upto_region 18 with fail
            obtain ⟨w8, hw8⟩ : ∃ w8, (w7.setCell ⟨gl, 7, none⟩ (.slice A5 x x)).drew = w8 := ⟨_, rfl⟩
            have hL8 : Lg ⟨⟨stamp, base, check, area⟩, i, slot, all.take x, offs 0 rs', x⟩ D w8 F (fun b => G' b ∨ (Value.slice A5 nA c5).ownBlock = some b) gl (.pointer (some ⟨gp, 0, none⟩)) (.slice A5 x x) st' := by
              rw [← hw8]
              exact HL8.out
            have h78 : w7.heap.size ≤ w8.heap.size ∧ Only (fun b => b = gl) w7 w8 := by
              rw [← hw8]
              exact H78.out
            rw [hw8]
            clear hw8 HL8 H78 c7' c9' z7' d1 d2
            have bd := below_drew0 w8
            have k8 := hL8.log.blk
            have hgl8 := k8.lt
            have CELLS : Hid (∀ W', Only F w8 W' → W'.cell? ⟨gl, 3, none⟩ = some (.int .i64 (area : Nat)) ∧ W'.cell? ⟨gl, 5, none⟩ = some (.int .i64 (i : Nat)) ∧ W'.cell? ⟨gl, 7, none⟩ = some (.slice A5 x x)) := Lib.hid fun W' ho => by
              have k := k8.only ho fun q => hL8.dis gl q hL8.log.inG
              exact ⟨k.cell 3, k.cell 5, k.cell 7⟩
            have FI : Hid (∀ W, Below w8.heap.size w8 W → Calls Tryz.prog 26 #[.pointer (some ⟨gl, 0, none⟩), .int .i64 (area : Nat)] W fun e w' => e = .returned (.int .i64 (p0 : Int)) ∧ W = w') := Lib.hid fun W hW => by
              have := first_any (k8.below hW hgl8) (by exact Nat.le_trans hs7 (by decide)) area HMAY.out.area
              rw [show 2 + area * i = p0 from HP0.out] at this
              exact this
            have hlt : (all.take x).length = x := by rw [htake, hstm]
            have hb8 : Bytes w8 w8.heap.size A5 (all.take x) := by
              obtain ⟨A1, c1, e, _, hb⟩ := hL8.log.bytes
              injection e with e1 _ _
              rw [e1]
              exact hb
            have cl := lay_any A5 (all.take x) x w8.drew.heap.size (by rw [hlt]; exact Nat.le_refl _) (by rw [hlt]; omega) w8.drew (Nat.le_refl _) hb8
            rw [hlt] at cl
            have hll := layOf_length' (all.take x)
            have hcb : chunks (all.take x) ≤ 701 := by unfold chunks; rw [hlt]; omega
            have h128 := lay_128 (all.take x)
            have hDD : openD D = makeP D p0 i (layOf (all.take x)) := by rw [HDD.out, hrs, htake]
            have MK : Hid (∀ W A9 c9 L9, Below w8.heap.size w8 W → W.ownsRow w8.drew.heap.size 45 1 (.slice A9 (chunks (all.take x)) c9) (chunks (all.take x)) L9 → Rows W w8.drew.heap.size L9 (layOf (all.take x)) → Calls Tryz.prog 29 #[.pointer (some ⟨gl, 0, none⟩), .int .i64 (p0 : Int), .int .i64 (i : Int), .slice A9 (chunks (all.take x)) c9] W fun e w' => e = .returned (.tuple #[]) ∧ DevPost (openD D) F (.pointer (some ⟨gp, 0, none⟩)) W w') := Lib.hid fun W A9 c9 L9 hW ho hr => by
              have hLW := hL8.below hW
              obtain ⟨q1, q2⟩ := rows_outs (w := w8.drew) (F := F) hL8.hiF ho hr
              have := make_any hLW.dev hLW.hiF hG hLW.log.blk (fun q => hLW.dis gl q hLW.log.inG) p0 i (by omega) (by omega) (by omega) A9 c9 L9 (layOf (all.take x)) q1 q2 (by rw [hll]; omega) h128
              rw [hll, ← hDD] at this
              exact this
            have FIN : Hid (∀ w9 wx, Below w8.heap.size w8 w9 → DevPost (openD D) F (.pointer (some ⟨gp, 0, none⟩)) w9 wx → OpenPost D F (.pointer (some ⟨gp, 0, none⟩)) w (.returned (.tuple #[.pointer (some ⟨gl, 0, none⟩), .int .u16 0])) wx) := Lib.hid fun w9 wx h9 hp => by
              have s1 := HWO.out.size
              have s2 := HB5.out.size
              have s3 := HO6.out.size
              have s4 := hb7.size
              have s5 := h78.1
              have s6 := h9.size
              have s7 := hp.2.size
              have hgw := HGW.out
              refine .inr ⟨HOP.out, by rw [hrs]; exact hgood, gl, rfl, ?_⟩
              have hL9 := (hL8.below h9).devPost hp
              have eL : openL D = ⟨⟨stamp, base, check, area⟩, i, slot, all.take x, offs 0 rs', x⟩ := by rw [HLL.out, hrs, htake, hstm]
              rw [eL]
              have o1 : Only (fun b => F b ∨ False) w w3 := HWO.out.mono fun b q => .inl (.inl q)
              have o2 : Only (fun b => F b ∨ False) w w5 := o1.trans (Only.of_below HB5.out (fun _ => False)) fun b q => q.elim
              have o3 : Only (fun b => F b ∨ False) w w6 := o2.trans HO6.out fun b q => .inr (by omega)
              have o4 : Only (fun b => F b ∨ False) w w7 := o3.trans (Only.of_below hb7 (fun _ => False)) fun b q => q.elim
              have o5 : Only (fun b => F b ∨ False) w w8 := o4.trans h78.2 fun b q => .inr (by omega)
              have o6 : Only (fun b => F b ∨ False) w w9 := o5.trans (Only.of_below h9 (fun _ => False)) fun b q => q.elim
              refine ⟨_, _, _, _, hL9, fun b q => ?_, fun b q => ?_, o6.trans hp.2 fun b q => .inl (.inl q)⟩
              · rcases q with q | q
                · exact .inl q
                · exact .inr ⟨by omega, q.2⟩
              · have hb := hL9.hiG b q
                refine .inr ⟨?_, hb⟩
                rcases q with q | q
                · rcases hG6 b q with z | z
                  · omega
                  · omega
                · have := (HXF.out b q).2.1
                  omega
            have x0 := CELLS.out w8.drew (Only.of_below bd _)
            have cf0 := FI.out w8.drew bd
            generalize chunks (all.take x) = nq at *
            clear hb8 hlt hll hcb h128 hDD hL8 h78 k8 hb7 hgood hs5 htake hstm hxn hrs hdn hxl hcA hG6
            go_cut [] (fun wx => ∃ w9, Below w8.heap.size w8 w9 ∧ DevPost (openD D) F (.pointer (some ⟨gp, 0, none⟩)) w9 wx)
            case first =>
              go_wp2_with fail
              go_region_held3 (fun W' => W'.cell? ⟨gl, 3, none⟩ = some (.int .i64 (area : Nat)) ∧ W'.cell? ⟨gl, 5, none⟩ = some (.int .i64 (i : Nat)) ∧ W'.cell? ⟨gl, 7, none⟩ = some (.slice A5 x x))
                (first | with_reducible (exact x0) | with_reducible (exact x1) | with_reducible (exact x2) | fail)
                (first
                  | ((with_reducible refine cf0.mono ?_); rintro e wq ⟨rfl, rfl⟩)
                  | ((with_reducible refine cf1.mono ?_); rintro e wq ⟨rfl, rfl⟩)
                  | ((with_reducible refine cl.mono ?_); rintro e w9 ⟨v9, L9, rfl, ho9, hr9, hb9⟩; obtain ⟨A9, c9, rfl, hc9, -⟩ := own_form ho9; have bl := bd.trans (hb9.mono bd.size); have x1 := CELLS.out w9 (Only.of_below bl _); have cf1 := FI.out w9 bl; have cm := MK.out w9 A9 c9 L9 bl ho9 hr9)
                  | ((with_reducible refine cm.mono ?_); rintro e w10 ⟨rfl, hp10⟩; have x2 := CELLS.out w10 ((Only.of_below bl _).trans hp10.2 fun b z => .inl z); have H10 := Lib.hid hp10)
                  | fail)
              all_goals
                go_wp2
                go_meet
                case rel => exact ⟨w9, bl, H10.out⟩
            case rest =>
              rename World => wx
              obtain ⟨w9, h9, hp9⟩ := hcut
              have H := Lib.hid (FIN.out w9 wx h9 hp9)
              clear FIN MK FI CELLS cl cf0 x0 h9 hp9 bd
              go_wp2
              go_ret2
              exact H.out
          · have hsr : Small rest := fun y hy => hs5 y (by rw [hall]; exact List.mem_append_right _ hy)
            obtain ⟨hok, hdn, hre⟩ := decR_enc hds hsr
            have h27 := encL_len hok
            obtain ⟨ny, hny⟩ : ∃ ny, decN rest = ny := ⟨_, rfl⟩
            rw [hny] at hdn hre ⊢
            have hle : ny ≤ rest.length := by rw [← hny]; exact (decR_some hds).2.2.1
            obtain ⟨y, hy⟩ : ∃ y, x + ny = y := ⟨_, rfl⟩
            have V1 : Hid (IntKind.i64.wrap ((x : Int) + (ny : Int)) = (y : Int)) := Lib.hid (by rw [IntKind.wrap_i64]; omega)
            obtain ⟨As, cs, rfl, hcs, -⟩ := hL7.log.places
            have st7 := hL7.log.strt
            simp only at st7 hL7
            rw [offs_length] at hL7 st7
            obtain ⟨k, hk⟩ : ∃ k, rs'.length = k := ⟨_, rfl⟩
            rw [hk] at hL7 st7
            have HL7 := Lib.hid hL7
            have HK : Hid ((offs 0 rs').length = k) := Lib.hid (by rw [offs_length]; exact hk)
            have hkb : k ≤ 90000 := by
              have h1 := offK_mono hgood (Nat.zero_le rs'.length) (Nat.le_refl _)
              rw [offK_all rs' (Nat.le_refl _), HX.out, offK_zero] at h1
              omega
            have NEW : Hid (GoodR (rs' ++ [r]) ∧ all = (rs' ++ [r]).flatMap encL ++ rest.drop ny ∧ ((rs' ++ [r]).flatMap encL).length = y ∧ offs 0 (rs' ++ [r]) = offs 0 rs' ++ [x]) := Lib.hid ⟨fun z hz => by
                rcases List.mem_append.1 hz with q | q
                · exact hgood z q
                · rw [List.mem_singleton.1 q]; exact ⟨hok, hfit⟩, by rw [List.flatMap_append, List.append_assoc]; simp only [List.flatMap_cons, List.flatMap_nil, List.append_nil]; rw [← hre]; exact hall, by rw [List.flatMap_append, List.length_append, HX.out]; simp only [List.flatMap_cons, List.flatMap_nil, List.append_nil]; omega, by rw [offs_snoc, HX.out, Nat.zero_add]⟩
            have CELLS : Hid (∀ W, Below w7.heap.size w7 W → W.cell? ⟨gl, 8, none⟩ = some (.slice As k cs) ∧ W.cell? ⟨gl, 9, none⟩ = some (.int .i64 (x : Nat))) := Lib.hid fun W hW => by
              have kk := (HL7.out.below hW).log.blk
              exact ⟨kk.cell 8, kk.cell 9⟩
            have b8 : Below w7.heap.size w7 (w7.alloc (.cells #[.int .i64 (x : Int)] 3)).drew := (below_alloc w7 (.cells #[.int .i64 (x : Int)] 3)).drew
            have k8 : (w7.alloc (.cells #[.int .i64 (x : Int)] 3)).drew.ownsRow 0 3 1 (.slice As k cs) k (placeV (offs 0 rs')) := kept_below b8 st7
            obtain ⟨q8, q9⟩ := CELLS.out _ b8
            obtain ⟨p8, p9⟩ := CELLS.out _ (below_drew0 w7)
            have hxy : x < y ∧ y ≤ nA := by omega
            clear hL7 st7 hcs hgood hall hsr hok hdn hre hny hle hy hk hds hfit h27
            go_upto_region 15 with fail
            go_cut [] from 53 to 86 (fun wx => ∃ A' c', Lg ⟨⟨stamp, base, check, area⟩, i, slot, [], offs 0 rs' ++ [x], x⟩ D wx F (grow G' w7 wx) gl (.pointer (some ⟨gp, 0, none⟩)) (.slice none 0 0) (.slice A' (k + 1) c') ∧ Only G' w7 wx)
            case first =>
              go_wp2_with fail
              go_region_law
                (first
                  | (refine step_append_at (by rfl) _ _ 80 80 (by rfl) 0 3 i0 _ 8 Tryz.underlying80 Tryz.underlying80 hi0 hz0 hz1 hz2 rfl (.slice As k cs) k (placeV (offs 0 rs')) (by rfl) k8 (w7.heap.size + 1) (some ⟨w7.heap.size, 0, none⟩) 1 1 [.int .i64 (x : Int)] (by rfl) rfl (At.drew (At.new w7 [.int .i64 (x : Int)] 3 (0, 0))) (by simp [Value.oneCell']) (by unfold maxLen; omega) (by omega) (Nat.zero_le _) ?_; intro A6 c6 w8 ho6 hg6 hat6; have hP := Lg.place (x := x) HL7.out b8 HK.out ho6 hg6 hat6; have s8 : w8.cell? ⟨gl, 8, none⟩ = some (.slice As k cs) := hP.1.cell 8; have z8 : w8.frozen? ⟨gl, 8, none⟩ = false := hP.1.frozen 8; have HP := Lib.hid hP.2; clear hP)
                  | fail)
              all_goals
                go_wp2
                go_meet
                case rel => exact ⟨_, _, HP.out.1, HP.out.2⟩
            case rest =>
              rename World => w9
              obtain ⟨A6, c6, hL9, hO9⟩ := hcut
              clear q8 q9 p8 p9 CELLS k8 b8
              have c9 : w9.cell? ⟨gl, 9, none⟩ = some (.int .i64 (x : Nat)) := hL9.log.blk.cell 9
              have z9 : w9.frozen? ⟨gl, 9, none⟩ = false := hL9.log.blk.frozen 9
              obtain ⟨hL10, hO10⟩ := hL9.lasts y
              have c10 : (w9.setCell ⟨gl, 9, none⟩ (.int .i64 (y : Nat))).cell? ⟨gl, 9, none⟩ = some (.int .i64 (y : Nat)) := hL10.log.blk.cell 9
              have FIN : Hid (Lg ⟨⟨stamp, base, check, area⟩, i, slot, [], offs 0 (rs' ++ [r]), ((rs' ++ [r]).flatMap encL).length⟩ D (w9.setCell ⟨gl, 9, none⟩ (.int .i64 (y : Nat))) F (grow G' w7 w9) gl (.pointer (some ⟨gp, 0, none⟩)) (.slice none 0 0) (.slice A6 (k + 1) c6) ∧ (∀ b, grow G' w7 w9 b → b = gl ∨ w5.heap.size ≤ b) ∧ Only (fun b => b = gl) w5 (w9.setCell ⟨gl, 9, none⟩ (.int .i64 (y : Nat)))) := Lib.hid (by
                refine ⟨?_, fun b q => ?_, ?_⟩
                · rw [NEW.out.2.2.1, NEW.out.2.2.2]
                  exact hL10
                · rcases q with q | q
                  · exact hG6 b q
                  · have h1 := HO6.out.size
                    have h2 := hb7.size
                    exact .inr (by omega)
                · have h1 : Only (fun b => b = gl) w5 w7 := HO6.out.trans (Only.of_below hb7 (fun _ => False)) fun b q => q.elim
                  have h2 : Only (fun b => b = gl) w5 w9 := h1.trans hO9 fun b q => hG6 b q
                  exact h2.trans hO10 fun b q => .inl q)
              have v1 := V1.out
              have HC10 := Lib.hid c10
              clear hL9 hO9 hL10 hO10 hb7 c10
              go_wp2
              go_roundw
              case rel => exact ⟨rs' ++ [r], rest.drop ny, _, _, NEW.out.1, NEW.out.2.1, FIN.out.1, FIN.out.2.1, FIN.out.2.2⟩
              case measure =>
                have h1 := HC10.out
                have h9 : w6.cell? ⟨gl, 9, none⟩ = some (.int .i64 (x : Nat)) := HL6.out.log.blk.cell 9
                rw [h1, h9]
                show nA - (y : Int).toNat < nA - (x : Int).toNat
                rw [Int.toNat_natCast, Int.toNat_natCast]
                omega
end Go.Proofs.YtkganajbilnanaaGreat
