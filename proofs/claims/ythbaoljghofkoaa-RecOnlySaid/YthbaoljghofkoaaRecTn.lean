/- A record with one byte turned behind its length is none. Conditions: none; no program in sight. -/
import Derived.Test.YthbaoljghofkoaaRecN
namespace Go.Proofs.Ythbaoljghofkoaa
open NumMath
set_option linter.unusedVariables false
set_option linter.unusedSimpArgs false

theorem sum_start : ∀ (v : List Nat) {s t : Nat}, s < 4294967296 → t < 4294967296 → Small v → CrcMath.sumFrom s v = CrcMath.sumFrom t v → s = t
  | [], s, t, _, _, _, h => h
  | x :: v, s, t, hs, ht, hv, h => by
    have hx := hv x (List.mem_cons_self ..)
    exact CrcMath.next_inj_sum hs ht (sum_start v (CrcMath.next_lt hs hx) (CrcMath.next_lt ht hx) (fun y hy => hv y (List.mem_cons_of_mem _ hy)) h)
theorem sum_one {u v : List Nat} {x y : Nat} (hu : Small u) (hv : Small v) (hx : x < 256) (hy : y < 256) (h : sumB (u ++ x :: v) = sumB (u ++ y :: v)) : x = y := by
  unfold sumB at h
  rw [CrcMath.sumFrom_append, CrcMath.sumFrom_append] at h
  have hs := CrcMath.sumFrom_lt (s := 0) u (by omega) hu
  exact CrcMath.next_inj_byte hx hy (sum_start v (CrcMath.next_lt hs hx) (CrcMath.next_lt hs hy) hv h)
theorem sum_set {l : List Nat} {i c : Nat} (hl : Small l) (hi : i < l.length) (hc : c < 256) (h : sumB l = sumB (l.set i c)) : l[i] = c := by
  have e1 : l = l.take i ++ l[i] :: l.drop (i + 1) := by rw [← List.drop_eq_getElem_cons hi, List.take_append_drop]
  have e2 : l.set i c = l.take i ++ c :: l.drop (i + 1) := List.set_eq_take_append_cons_drop .. |>.trans (by rw [if_pos hi])
  rw [e2] at h
  have h' : sumB (l.take i ++ l[i] :: l.drop (i + 1)) = sumB (l.take i ++ c :: l.drop (i + 1)) := by rw [← e1]; exact h
  exact sum_one (fun x hx => hl x (List.mem_of_mem_take hx)) (fun x hx => hl x (List.mem_of_mem_drop hx)) (hl _ (List.getElem_mem hi)) hc h'
theorem turned_none {l : List Nat} {r : RecP} {i c : Nat} (h : readP l = some r) (hs : Small l) (h2 : 2 ≤ i) (hi : i < l.length) (hc : c < 256) (hne : l[i] ≠ c) : readP (l.set i c) = none := by
  rcases hr : readP (l.set i c) with _ | r'
  · rfl
  exfalso
  have hs' : Small (l.set i c) := fun x hx => by
    rcases List.mem_or_eq_of_mem_set hx with q | q
    · exact hs x q
    · rw [q]; exact hc
  obtain ⟨-, e1, -⟩ := readP_inv h hs
  obtain ⟨-, e2, -⟩ := readP_inv hr hs'
  have hlB : Small (bodyL r) := by
    have := small_drop hs 2
    rw [e1] at this
    exact small_right this
  have hlB' : Small (bodyL r') := by
    have := small_drop hs' 2
    rw [e2] at this
    exact small_right this
  have hne' : (putF 4 (sumB (bodyL r)) ++ bodyL r)[i - 2]? ≠ some c := by
    rw [← e1, List.getElem?_drop, show 2 + (i - 2) = i by omega, List.getElem?_eq_getElem hi]
    intro q
    exact hne (Option.some.inj q)
  have hlen : i - 2 < 4 + (bodyL r).length := by
    have := congrArg List.length e1
    rw [List.length_drop, List.length_append, putF_length] at this
    omega
  rw [List.drop_set, if_neg (by omega), e1] at e2
  clear hne hr h
  have hb1 := sumB_lt hlB
  have hb2 := sumB_lt hlB'
  generalize i - 2 = j at *
  generalize bodyL r = B at *
  generalize bodyL r' = B' at *
  by_cases hj : j < 4
  · rw [List.set_append_left _ _ (by rw [putF_length]; omega)] at e2
    obtain ⟨g1, g2⟩ := List.append_inj e2 (by rw [List.length_set, putF_length, putF_length])
    subst g2
    apply hne'
    rw [List.getElem?_append_left (by rw [putF_length]; omega), ← g1]
    exact List.getElem?_set_self (by rw [putF_length]; omega)
  · rw [List.set_append_right _ _ (by rw [putF_length]; omega), putF_length] at e2
    obtain ⟨g1, g2⟩ := List.append_inj e2 (by rw [putF_length, putF_length])
    have hss : sumB B = sumB B' := by
      have := congrArg getL g1
      rw [getL_put, getL_put] at this
      omega
    rw [← g2] at hss
    apply hne'
    have hjb : j - 4 < B.length := by omega
    rw [List.getElem?_append_right (by rw [putF_length]; omega), putF_length, List.getElem?_eq_getElem hjb, sum_set hlB hjb hc hss]
/-- what the law asks of a turned record -/
theorem turned_len {l : List Nat} {i c : Nat} (h2 : 2 ≤ i) : getL ((l.set i c).take 2) = getL (l.take 2) := by
  rw [List.take_set_of_le (by omega)]
end Go.Proofs.Ythbaoljghofkoaa
