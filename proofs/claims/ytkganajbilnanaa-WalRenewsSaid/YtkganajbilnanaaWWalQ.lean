/- slices.BinarySearch over places that grow. Conditions: as stated. -/
import Derived.Test.YtkganajbilnanaaWWalB
namespace Go.Proofs.Ytkganajbilnanaa
open Go.ChangeShapes Go.WideShapes Go.ChangeAt Go.RowKit
open NumMath
set_option linter.unusedVariables false
set_option linter.unusedSimpArgs false
set_option maxRecDepth 20000

theorem nan1_any (x : Nat) (w : World) : Calls Try.prog 88 #[.int .i64 (x : Nat)] w fun e w' => e = .returned (.bool false) ∧ w = w' := by
  have t : ((x : Int) != (x : Int)) = false := by simp
  go_enter Try.func88, Try.ntmps88
  go_wp2
  go_ret
  exact ⟨rfl, rfl⟩
theorem nan2_any (x : Nat) (w : World) : Calls Try.prog 84 #[.int .i64 (x : Nat)] w fun e w' => e = .returned (.bool false) ∧ w = w' := by
  have t : ((x : Int) != (x : Int)) = false := by simp
  go_enter Try.func84, Try.ntmps84
  go_wp2
  go_ret
  exact ⟨rfl, rfl⟩
theorem less_any (x y : Nat) (w : World) : Calls Try.prog 83 #[.int .i64 (x : Nat), .int .i64 (y : Nat)] w fun e w' => e = .returned (.bool (decide (x < y))) ∧ w = w' := by
  have c := nan1_any x w
  rcases Nat.lt_or_ge x y with z | z
  · have t : decide ((x : Int) < (y : Int)) = true := by rw [decide_eq_true_iff]; omega
    rw [decide_eq_true z]
    go_enter Try.func83, Try.ntmps83
    go_wp2_with fail
    refine c.mono ?_
    rintro e w2 ⟨rfl, rfl⟩
    clear c
    go_wp2
    go_ret
    exact ⟨rfl, rfl⟩
  · have t : decide ((x : Int) < (y : Int)) = false := by rw [decide_eq_false_iff_not]; omega
    have u : ¬ (x < y) := by omega
    rw [decide_eq_false u]
    go_enter Try.func83, Try.ntmps83
    go_wp2_with fail
    refine c.mono ?_
    rintro e w2 ⟨rfl, rfl⟩
    clear c
    go_wp2
    go_ret
    exact ⟨rfl, rfl⟩
def SearchPost (l : List Nat) (x : Nat) (w : World) (e : Ending) (w' : World) : Prop :=
  (∃ (i : Nat) (b : Bool), e = .returned (.tuple #[.int .i64 (i : Nat), .bool b]) ∧ i ≤ l.length ∧ (∀ (t y : Nat), l[t]? = some y → (t < i → y < x) ∧ (i ≤ t → x ≤ y)) ∧ (b = true ↔ l[i]? = some x)) ∧ w = w'
set_option maxHeartbeats 4000000 in
theorem bsearch_any (A : Option Addr) (c : Nat) (l : List Nat) (B : Nat) (w : World) (h : At w B A (placeV l)) (hm : ∀ (s t a b : Nat), s ≤ t → l[s]? = some a → l[t]? = some b → a ≤ b) (hl : l.length ≤ 100000) (x : Nat) :
    Calls Try.prog 66 #[.slice A l.length c, .int .i64 (x : Nat)] w (SearchPost l x w) := by
  obtain ⟨n, hn⟩ : ∃ n, l.length = n := ⟨_, rfl⟩
  have HN := Lib.hid hn
  rw [hn] at hl ⊢
  have H := Lib.hid h
  have HM := Lib.hid hm
  clear hn h hm
  go_enter Try.func66, Try.ntmps66
  go_wp2_with fail
  go_loopw [7, 8, 9] (fun iv jv _ wr => ∃ i j : Nat, i ≤ j ∧ j ≤ n ∧ iv = .int .i64 (i : Nat) ∧ jv = .int .i64 (j : Nat) ∧ w = wr ∧ (∀ (t y : Nat), l[t]? = some y → (t < i → y < x) ∧ (j ≤ t → x ≤ y))) (fun iv jv _ _ => (intOf jv).toNat - (intOf iv).toNat)
  case atStart => exact ⟨0, n, Nat.zero_le _, Nat.le_refl _, rfl, rfl, rfl, fun t y hy => ⟨fun q => absurd q (by omega), fun q => by
    have := (List.getElem?_eq_some_iff.1 hy).1
    have := HN.out
    omega⟩⟩
  case round =>
    obtain ⟨i, j, hij, hjn, rfl, rfl, rfl, hall⟩ := hrel
    have HALL := Lib.hid hall
    clear hall
    rcases Nat.lt_or_ge i j with hlt | hge
    · have e1 : decide ((i : Int) < (j : Int)) = true := by rw [decide_eq_true_iff]; omega
      obtain ⟨s, hs⟩ : ∃ s, i + j = s := ⟨_, rfl⟩
      obtain ⟨m, hmm⟩ : ∃ m, s / 2 = m := ⟨_, rfl⟩
      have v1 : IntKind.i64.wrap ((i : Int) + (j : Int)) = (s : Int) := by rw [IntKind.wrap_i64]; omega
      have v2 : IntKind.u64.wrap (s : Int) = (s : Int) := by rw [IntKind.wrap_u64]; omega
      have v3 : (s : Int) / 2 = (m : Int) := by omega
      have v4 : wrap64 (m : Int) = (m : Int) := by
        unfold wrap64
        omega
      have hmn : m < n := by omega
      have e2 : (0 : Int) ≤ (m : Int) := by omega
      have e3 : (m : Int) < (n : Int) := by omega
      have v5 : IntKind.i64.wrap ((m : Int) + 1) = ((m + 1 : Nat) : Int) := by rw [IntKind.wrap_i64]; omega
      have him : i ≤ m ∧ m < j := by omega
      have hml : m < l.length := by rw [HN.out]; exact hmn
      obtain ⟨b, o, hA, hb, hc⟩ := H.out m (by unfold placeV; rw [List.length_map]; exact hml)
      unfold placeV at hc
      rw [List.getElem_map] at hc
      have hg : l[m]? = some l[m] := List.getElem?_eq_getElem hml
      generalize l[m] = y at *
      have HG := Lib.hid hg
      have HIM := Lib.hid him
      have cl := less_any y x w
      have HA := Lib.hid hA
      rw [hA]
      clear hs hmm hml hg him hA
      go_wp2_with fail
      refine cl.mono ?_
      rintro e w2 ⟨rfl, rfl⟩
      clear cl
      by_cases hyx : y < x
      · have HY := Lib.hid hyx
        rw [decide_eq_true hyx]
        clear hyx
        go_wp2
        go_roundw
        case rel => exact ⟨m + 1, j, by have := HIM.out; omega, hjn, by go_num, rfl, (by trivial), fun t z hz => ⟨fun q => Nat.lt_of_le_of_lt (HM.out t m z y (by omega) hz HG.out) HY.out, (HALL.out t z hz).2⟩⟩
        case measure => have := HIM.out; simp [intOf]; omega
      · have HY := Lib.hid hyx
        rw [decide_eq_false hyx]
        clear hyx
        go_wp2
        go_roundw
        case rel => exact ⟨i, m, HIM.out.1, by omega, rfl, rfl, (by trivial), fun t z hz => ⟨(HALL.out t z hz).1, fun q => Nat.le_trans (Nat.le_of_not_lt HY.out) (HM.out m t y z q HG.out hz)⟩⟩
        case measure => have := HIM.out; simp [intOf]; omega
    · obtain rfl : i = j := by omega
      have e1 : decide ((i : Int) < (i : Int)) = false := by rw [decide_eq_false_iff_not]; omega
      by_cases hin : i < n
      · have e2 : decide ((i : Int) < (n : Int)) = true := by rw [decide_eq_true_iff]; omega
        have e3 : (0 : Int) ≤ (i : Int) := by omega
        have e4 : (i : Int) < (n : Int) := by omega
        have hil : i < l.length := by rw [HN.out]; exact hin
        obtain ⟨b, o, hA, hb, hc⟩ := H.out i (by unfold placeV; rw [List.length_map]; exact hil)
        unfold placeV at hc
        rw [List.getElem_map] at hc
        have hg : l[i]? = some l[i] := List.getElem?_eq_getElem hil
        generalize l[i] = y at *
        have HG := Lib.hid hg
        have cn := nan2_any y w
        rw [hA]
        by_cases hxy : y = x
        · subst hxy
          have t5 : ((y : Int) == (y : Int)) = true := by simp
          have F : Hid (SearchPost l y w (.returned (.tuple #[.int .i64 (i : Nat), .bool true])) w) := Lib.hid ⟨⟨i, true, rfl, Nat.le_of_lt hil, HALL.out, ⟨fun _ => hg, fun _ => rfl⟩⟩, rfl⟩
          clear hil hg hA hge cn
          go_wp2
          go_ret2
          exact F.out
        · have t5 : ((y : Int) == (x : Int)) = false := by rw [beq_eq_false_iff_ne]; omega
          have F : Hid (SearchPost l x w (.returned (.tuple #[.int .i64 (i : Nat), .bool false])) w) := Lib.hid ⟨⟨i, false, rfl, Nat.le_of_lt hil, HALL.out, ⟨fun q => (by cases q), fun q => absurd (Option.some.inj (hg.symm.trans q)) hxy⟩⟩, rfl⟩
          clear hil hg hA hge hxy
          go_wp2_with fail
          refine cn.mono ?_
          rintro e w2 ⟨rfl, rfl⟩
          clear cn
          go_wp2
          go_ret2
          exact F.out
      · have e2 : decide ((i : Int) < (n : Int)) = false := by rw [decide_eq_false_iff_not]; omega
        have F : Hid (SearchPost l x w (.returned (.tuple #[.int .i64 (i : Nat), .bool false])) w) := Lib.hid ⟨⟨i, false, rfl, by rw [HN.out]; exact hjn, HALL.out, ⟨fun q => (by cases q), fun q => by
          have := (List.getElem?_eq_some_iff.1 q).1
          have := HN.out
          omega⟩⟩, rfl⟩
        clear hge
        go_wp2
        go_ret2
        exact F.out
end Go.Proofs.Ytkganajbilnanaa
