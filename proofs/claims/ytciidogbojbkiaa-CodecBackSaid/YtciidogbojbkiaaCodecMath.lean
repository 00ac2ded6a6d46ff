/- Plain laws of chapter 23's bytes: what is written is read. No program in sight. -/
import Derived.Test.YtciidogbojbkiaaMath
namespace Go.Proofs.Ytciidogbojbkiaa
open NumMath
set_option linter.unusedVariables false
set_option linter.unusedSimpArgs false

/-- bytes that are one number's -/
theorem putF_getL : ∀ (w : Nat) (l : List Nat), l.length = w → (∀ x ∈ l, x < 256) → putF w (getL l) = l
  | 0, l, h, _ => by rw [List.eq_nil_of_length_eq_zero h]; rfl
  | w + 1, [], h, _ => by simp at h
  | w + 1, x :: l, h, hs => by
    have hx := hs x (by simp)
    have e := putF_getL w l (by simpa using h) (fun y hy => hs y (by simp [hy]))
    simp only [getL, putF]
    rw [show (x + 256 * getL l) % 256 = x by omega, show (x + 256 * getL l) / 256 = getL l by omega, e]
theorem getL_putF {w n : Nat} (h : n < 256 ^ w) : getL (putF w n) = n := by rw [getL_put, Nat.mod_eq_of_lt h]

structure Req where
  k : Nat
  n : Nat
  ok : Nat
  who : Nat
  whom : Nat
  what : Nat
  id : Nat
  on : Nat
  pr : Nat
  deriving DecidableEq
def Req.zero : Req := ⟨0, 0, 0, 0, 0, 0, 0, 0, 0⟩
structure Req.Fits (r : Req) : Prop where
  k : r.k < 256
  n : r.n < 4294967296
  ok : r.ok < 256
  who : r.who < 4294967296
  whom : r.whom < 4294967296
  what : r.what < 4294967296
  id : r.id < 4294967296
  on : r.on < 18446744073709551616
  pr : r.pr < 18446744073709551616
def askL (r : Req) : List Nat := putF 1 r.k ++ putF 4 r.n ++ putF 1 r.ok ++ putF 4 r.who ++ putF 4 r.whom ++ putF 4 r.what ++ putF 4 r.id ++ putF 8 r.on ++ putF 8 r.pr
theorem askL_length (r : Req) : (askL r).length = 38 := by simp [askL, putF_length]
def seg (l : List Nat) (i w : Nat) : List Nat := (l.drop i).take w
def askedL (l : List Nat) : Req := ⟨getL (seg l 0 1), getL (seg l 1 4), getL (seg l 5 1), getL (seg l 6 4), getL (seg l 10 4), getL (seg l 14 4), getL (seg l 18 4), getL (seg l 22 8), getL (seg l 30 8)⟩
theorem seg_length {l : List Nat} {i w : Nat} (h : i + w ≤ l.length) : (seg l i w).length = w := by simp [seg]; omega
theorem seg_small {l : List Nat} (hs : ∀ x ∈ l, x < 256) (i w : Nat) : ∀ x ∈ seg l i w, x < 256 := fun x hx => hs x (List.mem_of_mem_drop (List.mem_of_mem_take hx))
theorem seg_put {l : List Nat} {i w : Nat} (h : i + w ≤ l.length) (hs : ∀ x ∈ l, x < 256) : putF w (getL (seg l i w)) = seg l i w := putF_getL w _ (seg_length h) (seg_small hs i w)
theorem seg_lt {l : List Nat} (hs : ∀ x ∈ l, x < 256) (i w : Nat) : getL (seg l i w) < 256 ^ w := by
  have h := getL_lt (seg l i w) (seg_small hs i w)
  have : (seg l i w).length ≤ w := by simp [seg]; omega
  exact Nat.lt_of_lt_of_le h (Nat.pow_le_pow_right (by omega) this)
theorem seg_join (l : List Nat) (i a b : Nat) : seg l i a ++ seg l (i + a) b = seg l i (a + b) := by
  unfold seg
  rw [List.take_add, List.drop_drop]
theorem askedL_fits {l : List Nat} (hs : ∀ x ∈ l, x < 256) : (askedL l).Fits :=
  ⟨seg_lt hs 0 1, seg_lt hs 1 4, seg_lt hs 5 1, seg_lt hs 6 4, seg_lt hs 10 4, seg_lt hs 14 4, seg_lt hs 18 4, seg_lt hs 22 8, seg_lt hs 30 8⟩
theorem ask_asked {l : List Nat} (h : l.length = 38) (hs : ∀ x ∈ l, x < 256) : askL (askedL l) = l := by
  simp only [askL, askedL]
  rw [seg_put (by omega) hs, seg_put (by omega) hs, seg_put (by omega) hs, seg_put (by omega) hs, seg_put (by omega) hs, seg_put (by omega) hs, seg_put (by omega) hs, seg_put (by omega) hs, seg_put (by omega) hs]
  rw [seg_join l 0 1 4, seg_join l 0 5 1, seg_join l 0 6 4, seg_join l 0 10 4, seg_join l 0 14 4, seg_join l 0 18 4, seg_join l 0 22 8, seg_join l 0 30 8]
  unfold seg
  rw [List.drop_zero, List.take_of_length_le (by omega)]
theorem seg_mid (a b c : List Nat) : seg (a ++ b ++ c) a.length b.length = b := by simp [seg]
theorem asked_parts {x1 x2 x3 x4 x5 x6 x7 x8 x9 : List Nat} (h1 : x1.length = 1) (h2 : x2.length = 4) (h3 : x3.length = 1) (h4 : x4.length = 4) (h5 : x5.length = 4) (h6 : x6.length = 4) (h7 : x7.length = 4) (h8 : x8.length = 8) (h9 : x9.length = 8) :
    askedL (x1 ++ x2 ++ x3 ++ x4 ++ x5 ++ x6 ++ x7 ++ x8 ++ x9) = ⟨getL x1, getL x2, getL x3, getL x4, getL x5, getL x6, getL x7, getL x8, getL x9⟩ := by
  have e1 := seg_mid [] x1 (x2 ++ x3 ++ x4 ++ x5 ++ x6 ++ x7 ++ x8 ++ x9)
  have e2 := seg_mid x1 x2 (x3 ++ x4 ++ x5 ++ x6 ++ x7 ++ x8 ++ x9)
  have e3 := seg_mid (x1 ++ x2) x3 (x4 ++ x5 ++ x6 ++ x7 ++ x8 ++ x9)
  have e4 := seg_mid (x1 ++ x2 ++ x3) x4 (x5 ++ x6 ++ x7 ++ x8 ++ x9)
  have e5 := seg_mid (x1 ++ x2 ++ x3 ++ x4) x5 (x6 ++ x7 ++ x8 ++ x9)
  have e6 := seg_mid (x1 ++ x2 ++ x3 ++ x4 ++ x5) x6 (x7 ++ x8 ++ x9)
  have e7 := seg_mid (x1 ++ x2 ++ x3 ++ x4 ++ x5 ++ x6) x7 (x8 ++ x9)
  have e8 := seg_mid (x1 ++ x2 ++ x3 ++ x4 ++ x5 ++ x6 ++ x7) x8 x9
  have e9 := seg_mid (x1 ++ x2 ++ x3 ++ x4 ++ x5 ++ x6 ++ x7 ++ x8) x9 []
  simp only [List.append_assoc, List.nil_append, List.append_nil, List.length_append, List.length_nil, h1, h2, h3, h4, h5, h6, h7, h8, h9, Nat.reduceAdd] at e1 e2 e3 e4 e5 e6 e7 e8 e9
  simp only [askedL, List.append_assoc, e1, e2, e3, e4, e5, e6, e7, e8, e9]
theorem asked_ask {r : Req} (h : r.Fits) : askedL (askL r) = r := by
  obtain ⟨k, n, ok, who, whom, what, id, on, pr⟩ := r
  obtain ⟨h1, h2, h3, h4, h5, h6, h7, h8, h9⟩ := h
  simp only at h1 h2 h3 h4 h5 h6 h7 h8 h9
  unfold askL
  have e := putF_length
  rw [asked_parts (e _ _) (e _ _) (e _ _) (e _ _) (e _ _) (e _ _) (e _ _) (e _ _) (e _ _)]
  simp only [getL_putF (w := 1) h1, getL_putF (w := 4) h2, getL_putF (w := 1) h3, getL_putF (w := 4) h4, getL_putF (w := 4) h5, getL_putF (w := 4) h6, getL_putF (w := 4) h7, getL_putF (w := 8) h8, getL_putF (w := 8) h9]
theorem askL_inj {a b : Req} (ha : a.Fits) (hb : b.Fits) : askL a = askL b ↔ a = b := ⟨fun h => by rw [← asked_ask ha, h, asked_ask hb], fun h => by rw [h]⟩
/-- may a request be? -/
def mayR (r : Req) : Bool := decide (1 ≤ r.k ∧ r.k ≤ 6 ∧ (r.k = 4 ∨ r.n = 0) ∧ (r.k = 2 ∨ (r.ok = 0 ∧ r.who = 0 ∧ r.whom = 0 ∧ r.what = 0 ∧ r.id = 0 ∧ r.on = 0 ∧ r.pr = 0)))

structure Rep where
  e : Nat
  a : Nat
  b : Nat
  c : Nat
  deriving DecidableEq
def Rep.zero : Rep := ⟨0, 0, 0, 0⟩
structure Rep.Fits (r : Rep) : Prop where
  e : r.e < 65536
  a : r.a < 18446744073709551616
  b : r.b < 18446744073709551616
  c : r.c < 18446744073709551616
def tellL (r : Rep) : List Nat := putF 2 r.e ++ putF 8 r.a ++ putF 8 r.b ++ putF 8 r.c
theorem tellL_length (r : Rep) : (tellL r).length = 26 := by simp [tellL, putF_length]
def toldL (l : List Nat) : Rep := ⟨getL (seg l 0 2), getL (seg l 2 8), getL (seg l 10 8), getL (seg l 18 8)⟩
theorem toldL_fits {l : List Nat} (hs : ∀ x ∈ l, x < 256) : (toldL l).Fits := ⟨seg_lt hs 0 2, seg_lt hs 2 8, seg_lt hs 10 8, seg_lt hs 18 8⟩
theorem told_parts {x1 x2 x3 x4 : List Nat} (h1 : x1.length = 2) (h2 : x2.length = 8) (h3 : x3.length = 8) (h4 : x4.length = 8) : toldL (x1 ++ x2 ++ x3 ++ x4) = ⟨getL x1, getL x2, getL x3, getL x4⟩ := by
  have e1 := seg_mid [] x1 (x2 ++ x3 ++ x4)
  have e2 := seg_mid x1 x2 (x3 ++ x4)
  have e3 := seg_mid (x1 ++ x2) x3 x4
  have e4 := seg_mid (x1 ++ x2 ++ x3) x4 []
  simp only [List.append_assoc, List.nil_append, List.append_nil, List.length_append, List.length_nil, h1, h2, h3, h4, Nat.reduceAdd] at e1 e2 e3 e4
  simp only [toldL, List.append_assoc, e1, e2, e3, e4]
theorem told_tell {r : Rep} (h : r.Fits) : toldL (tellL r) = r := by
  obtain ⟨x, a, b, c⟩ := r
  obtain ⟨h1, h2, h3, h4⟩ := h
  simp only at h1 h2 h3 h4
  unfold tellL
  have e := putF_length
  rw [told_parts (e _ _) (e _ _) (e _ _) (e _ _)]
  simp only [getL_putF (w := 2) h1, getL_putF (w := 8) h2, getL_putF (w := 8) h3, getL_putF (w := 8) h4]
theorem tellL_inj {a b : Rep} (ha : a.Fits) (hb : b.Fits) : tellL a = tellL b ↔ a = b := ⟨fun h => by rw [← told_tell ha, h, told_tell hb], fun h => by rw [h]⟩
end Go.Proofs.Ytciidogbojbkiaa
