/- The log, plain: headers. Conditions: none; no program in sight. -/
import Derived.Test.YtkganajbilnanaaWBase
import Derived.Test.YtkganajbilnanaaWDiskA
namespace Go.Proofs.Ytkganajbilnanaa
open NumMath
set_option linter.unusedVariables false
set_option linter.unusedSimpArgs false

/-- what a header says -/
structure HeadP where
  stamp : Nat
  base : Nat
  check : Nat
  area : Nat
def HeadP.Fits (h : HeadP) : Prop := h.stamp < 18446744073709551616 ∧ h.base < 18446744073709551616 ∧ h.check < 18446744073709551616 ∧ h.area < 256
/-- a header as a sector -/
def hsec (h : HeadP) : List Nat := (((putF 8 h.stamp ++ [h.area]) ++ putF 8 h.base) ++ putF 8 h.check) ++ List.replicate 95 0 ++ putF 8 h.stamp
theorem hsec_length (h : HeadP) : (hsec h).length = 128 := by unfold hsec; simp [putF_length]
theorem hsec_small {h : HeadP} (hf : h.Fits) : Small (hsec h) := by
  intro x hx
  unfold hsec at hx
  simp only [List.mem_append, List.mem_singleton, List.mem_replicate] at hx
  rcases hx with ((((hx | rfl) | hx) | hx) | ⟨-, rfl⟩) | hx
  · exact putF_small _ _ x hx
  · exact hf.2.2.2
  · exact putF_small _ _ x hx
  · exact putF_small _ _ x hx
  · decide
  · exact putF_small _ _ x hx
/-- the header that a sector is -/
def wheadP (b : List Nat) : HeadP := ⟨getL (b.take 8), getL ((b.drop 9).take 8), getL ((b.drop 17).take 8), b.getD 8 0⟩
/-- does it count -/
def isHead (b : List Nat) : Bool := decide ((wheadP b).stamp ≠ 0) && (decide (((wheadP b).base + 18446744073709551615) % 18446744073709551616 < 9223372036854775808) && (decide ((wheadP b).area < 2) && decide (b = hsec (wheadP b))))
theorem wheadP_hsec {h : HeadP} (hf : h.Fits) : wheadP (hsec h) = h := by
  obtain ⟨s, b, c, a⟩ := h
  obtain ⟨f0, f1, f2, f3⟩ := hf
  have e : hsec ⟨s, b, c, a⟩ = putF 8 s ++ (a :: (putF 8 b ++ (putF 8 c ++ (List.replicate 95 0 ++ putF 8 s)))) := by unfold hsec; simp
  have l8 : ∀ v, (putF 8 v).length = 8 := fun v => putF_length 8 v
  have t8 : ∀ v (r : List Nat), (putF 8 v ++ r).take 8 = putF 8 v := fun v r => List.take_left' (l8 v)
  have d8 : ∀ v (r : List Nat), (putF 8 v ++ r).drop 8 = r := fun v r => List.drop_left' (l8 v)
  have d9 : (hsec ⟨s, b, c, a⟩).drop 9 = putF 8 b ++ (putF 8 c ++ (List.replicate 95 0 ++ putF 8 s)) := by
    rw [e, show 9 = 8 + 1 from rfl, ← List.drop_drop, d8]
    rfl
  have d17 : (hsec ⟨s, b, c, a⟩).drop 17 = putF 8 c ++ (List.replicate 95 0 ++ putF 8 s) := by
    rw [show 17 = 9 + 8 from rfl, ← List.drop_drop, d9, d8]
  have g8 : (hsec ⟨s, b, c, a⟩).getD 8 0 = a := by
    rw [e, List.getD_eq_getElem?_getD, List.getElem?_append_right (by rw [l8]; omega), l8]
    rfl
  unfold wheadP
  rw [d9, d17, g8, t8, t8, e, t8, getL_put, getL_put, getL_put, Nat.mod_eq_of_lt (show s < 256 ^ 8 from f0), Nat.mod_eq_of_lt (show b < 256 ^ 8 from f1), Nat.mod_eq_of_lt (show c < 256 ^ 8 from f2)]
theorem isHead_hsec {h : HeadP} (hf : h.Fits) (h0 : h.stamp ≠ 0) (h1 : 1 ≤ h.base) (h2 : h.base ≤ 9223372036854775808) (h3 : h.area < 2) : isHead (hsec h) = true := by
  unfold isHead
  rw [wheadP_hsec hf, decide_eq_true h0, decide_eq_true h3, decide_eq_true (rfl : hsec h = hsec h), decide_eq_true (by omega)]
  rfl
theorem wheadP_fits {b : List Nat} (hs : Small b) : (wheadP b).Fits := by
  have g : ∀ l : List Nat, Small l → getL (l.take 8) < 18446744073709551616 := fun l hl => by
    have h1 := getL_lt (l.take 8) (fun x hx => hl x (List.mem_of_mem_take hx))
    exact Nat.lt_of_lt_of_le h1 (Nat.le_trans (Nat.pow_le_pow_right (n := 256) (by omega) (show (l.take 8).length ≤ 8 by rw [List.length_take]; omega)) (by decide))
  refine ⟨g b hs, g _ (fun x hx => hs x (List.mem_of_mem_drop hx)), g _ (fun x hx => hs x (List.mem_of_mem_drop hx)), ?_⟩
  show b.getD 8 0 < 256
  rw [List.getD_eq_getElem?_getD]
  rcases hi : b[8]? with _ | x
  · decide
  · exact hs x (List.mem_of_getElem? hi)
/-- a text laid into noughts -/
theorem splice0 {p news : List Nat} {o n m : Nat} (hp : p.length = o) (hn : news.length = n) : ((p ++ List.replicate (n + m) 0).map byteV).take o ++ (news.map byteV).take n ++ ((p ++ List.replicate (n + m) 0).map byteV).drop (o + n) = ((p ++ news) ++ List.replicate m 0).map byteV := by
  rw [← List.map_take, ← List.map_drop, ← List.map_take, List.take_left' hp, List.take_of_length_le (by omega), ← List.drop_drop, List.drop_left' hp, List.drop_replicate, Nat.add_sub_cancel_left, List.map_append, List.map_append]
end Go.Proofs.Ytkganajbilnanaa
