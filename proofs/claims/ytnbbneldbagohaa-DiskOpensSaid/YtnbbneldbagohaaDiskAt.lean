/- disk: file, at, goes, Halt, Halted. Conditions: the device lies there. -/
import Derived.Test.YtnbbneldbagohaaDiskDev
namespace Go.Proofs.Ytnbbneldbagohaa
open Go.ChangeShapes Go.WideShapes Go.ChangeAt Go.RowKit
set_option linter.unusedVariables false
set_option linter.unusedSimpArgs false

section
variable {D : DevP} {w : World} {F : Nat → Prop} {gp : Nat} {s : Nat → Value} {lv : Value} {X : Nat → List Value}
theorem file_any (h : DevAt D w F gp s lv X) (n : Nat) (hn : n < 256) :
    Calls Try.prog 38 #[.pointer (some ⟨gp, 0, none⟩), .int .u8 n] w fun e w' => e = .returned (if n < 2 then s n else .slice none 0 0) ∧ w = w' := by
  have hb := h.blk.cell
  rcases (show n = 0 ∨ n = 1 ∨ 2 ≤ n from by omega) with rfl | rfl | h2
  · have c0 : w.cell? ⟨gp, 0, none⟩ = some (s 0) := hb 0
    clear h hb
    generalize s 0 = v at *
    go_enter Try.func38, Try.ntmps38
    go_wp2
    go_ret
    exact ⟨rfl, rfl⟩
  · have c1 : w.cell? ⟨gp, 1, none⟩ = some (s 1) := hb 1
    clear h hb
    generalize s 1 = v at *
    go_enter Try.func38, Try.ntmps38
    go_wp2
    go_ret
    exact ⟨rfl, rfl⟩
  · rw [if_neg (by omega)]
    have e1 : decide ((2 : Int) ≤ (n : Int)) = true := by rw [decide_eq_true_iff]; omega
    clear h hb
    go_enter Try.func38, Try.ntmps38
    go_wp2
    go_ret
    exact ⟨rfl, rfl⟩
theorem at_some (h : DevAt D w F gp s lv X) (n : Nat) (hn : n < 2) (k : Nat) (hk : k < (D.f n).length) (hL : (D.f n).length ≤ 4096) {g c : Nat} (hs : s n = .slice (some ⟨g, 0, none⟩) (D.f n).length c) :
    Calls Try.prog 32 #[.pointer (some ⟨gp, 0, none⟩), .int .u8 n, .int .i64 k] w fun e w' => e = .returned (.pointer (some ⟨g, 2 * k, none⟩)) ∧ w = w' := by
  have hf := file_any h n (by omega)
  rw [if_pos hn, hs] at hf
  generalize (D.f n).length = m at *
  have e1 : decide ((k : Int) < 0) = false := by rw [decide_eq_false_iff_not]; omega
  have e2 : decide ((m : Int) ≤ (k : Int)) = false := by rw [decide_eq_false_iff_not]; omega
  have e3 : (0 : Int) ≤ (k : Int) := by omega
  have e4 : (k : Int) < (m : Int) := by omega
  clear h
  go_enter Try.func32, Try.ntmps32
  go_wp2_with (go_at_call 38; refine hf.mono ?_; rintro e w1 ⟨rfl, rfl⟩)
  go_ret
  exact ⟨by first | rfl | (rw [Nat.mul_comm 2 k]; done) | (simp [Nat.mul_comm]; done) | (simp; omega), rfl⟩
theorem at_none (h : DevAt D w F gp s lv X) (n : Nat) (hn : n < 256) (i : Int) (hi : ¬ (n < 2 ∧ 0 ≤ i ∧ i < ((D.f n).length : Int))) :
    Calls Try.prog 32 #[.pointer (some ⟨gp, 0, none⟩), .int .u8 n, .int .i64 i] w fun e w' => e = .returned (.pointer none) ∧ w = w' := by
  have hf := file_any h n hn
  by_cases h0 : i < 0
  · have e1 : decide (i < 0) = true := by rw [decide_eq_true_iff]; omega
    generalize (if n < 2 then s n else Value.slice none 0 0) = v at *
    clear h
    go_enter Try.func32, Try.ntmps32
    go_wp2_with (go_at_call 38; refine hf.mono ?_; rintro e w1 ⟨rfl, rfl⟩)
    go_ret
    exact ⟨rfl, rfl⟩
  · have e1 : decide (i < 0) = false := by rw [decide_eq_false_iff_not]; omega
    have hv : ∃ A m c, (if n < 2 then s n else Value.slice none 0 0) = .slice A m c ∧ (m : Int) ≤ i := by
      by_cases hn2 : n < 2
      · rw [if_pos hn2]
        obtain ⟨A, c, e, -, -⟩ := own_form (h.file n hn2).1
        exact ⟨A, _, c, e, by omega⟩
      · rw [if_neg hn2]
        exact ⟨none, 0, 0, rfl, by omega⟩
    obtain ⟨A, m, c, ev, hm⟩ := hv
    rw [ev] at hf
    have e2 : decide ((m : Int) ≤ i) = true := by rw [decide_eq_true_iff]; omega
    clear h ev
    go_enter Try.func32, Try.ntmps32
    go_wp2_with (go_at_call 38; refine hf.mono ?_; rintro e w1 ⟨rfl, rfl⟩)
    go_ret
    exact ⟨rfl, rfl⟩
end
end Go.Proofs.Ytnbbneldbagohaa
