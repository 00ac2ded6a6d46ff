/- wal: where the record behind one begins. Conditions: the log's box and its places lie there. -/
import Derived.Test.YtkganajbilnanaaWWalG
import Derived.Test.YtkganajbilnanaaWWalD
namespace Go.Proofs.Ytkganajbilnanaa
open Go.ChangeShapes Go.WideShapes Go.ChangeAt Go.RowKit
open NumMath
set_option linter.unusedVariables false
set_option linter.unusedSimpArgs false
set_option maxRecDepth 20000

/-- the places as cells -/
def placeV (l : List Nat) : List Value := l.map fun n => .int .i64 (n : Nat)
def behindP (starts : List Nat) (n k : Nat) : Nat := starts[k + 1]?.getD n
theorem behind_any {h : HeadP} {dp : Value} {strips slot lasts gl : Nat} {w : World} {A As : Option Addr} {n c cs : Nat} {starts : List Nat} (B : Nat) (k : Nat)
    (kb : Blk w gl 75 (logV h dp strips slot (.slice A n c) (.slice As starts.length cs) lasts)) (hs : At w B As (placeV starts)) (hk : k ≤ 1000000) :
    Calls Try.prog 67 #[.pointer (some ⟨gl, 0, none⟩), .int .i64 (k : Nat)] w fun e w' => e = .returned (.int .i64 (behindP starts n k : Nat)) ∧ w = w' := by
  have c7 : w.cell? ⟨gl, 7, none⟩ = some (.slice A n c) := kb.cell 7
  have c8 : w.cell? ⟨gl, 8, none⟩ = some (.slice As starts.length cs) := kb.cell 8
  obtain ⟨q, hq⟩ : ∃ q, k + 1 = q := ⟨_, rfl⟩
  have v1 : IntKind.i64.wrap ((k : Int) + 1) = (q : Int) := by rw [IntKind.wrap_i64]; omega
  obtain ⟨m, hm⟩ : ∃ m, starts.length = m := ⟨_, rfl⟩
  have HP : Hid (behindP starts n k = starts[q]?.getD n) := Lib.hid (by unfold behindP; rw [hq])
  rcases Nat.lt_or_ge q m with hlt | hge
  · have hql : q < starts.length := by omega
    obtain ⟨b, o, hA, hb, hc⟩ := hs q (by unfold placeV; rw [List.length_map]; exact hql)
    have e1 : decide ((q : Int) < (m : Int)) = true := by rw [decide_eq_true_iff]; omega
    have e2 : (0 : Int) ≤ (q : Int) := by omega
    have e3 : (q : Int) < (m : Int) := by omega
    unfold placeV at hc
    rw [List.getElem_map] at hc
    have hx : starts[q]?.getD n = starts[q] := by rw [List.getElem?_eq_getElem hql]; rfl
    rw [hm] at c8
    rw [hA] at c8
    generalize starts[q] = x at *
    have HX := Lib.hid hx
    clear hx hA hs kb hq hm hql
    go_enter Try.func67, Try.ntmps67
    go_wp2
    go_ret
    exact ⟨by rw [HP.out, HX.out]; rfl, rfl⟩
  · have e1 : decide ((q : Int) < (m : Int)) = false := by rw [decide_eq_false_iff_not]; omega
    have u1 : ¬ (q < m) := by omega
    have hx : starts[q]?.getD n = n := by rw [List.getElem?_eq_none (by omega)]; rfl
    have HX := Lib.hid hx
    rw [hm] at c8
    clear hx hs kb hq hm
    go_enter Try.func67, Try.ntmps67
    go_wp2
    go_ret
    exact ⟨by rw [HP.out, HX.out]; rfl, rfl⟩
end Go.Proofs.Ytkganajbilnanaa
