/- Both Greatest: the greatest stamp that stands in the sectors. Conditions: as stated. -/
import Derived.Test.YtkmfacmigonbcaaSealM
namespace Go.Proofs.Ytkmfacmigonbcaa
open Go.ChangeShapes Go.WideShapes Go.ChangeAt Go.RowKit
open NumMath
set_option linter.unusedVariables false
set_option linter.unusedSimpArgs false

def greatL (ls : List (List Nat)) : Nat := ls.foldl (fun m l => max (max m (markA l)) (markB l)) 0
theorem greatL_next {ls : List (List Nat)} {k : Nat} (h : k < ls.length) : greatL (ls.take (k + 1)) = max (max (greatL (ls.take k)) (markA ls[k])) (markB ls[k]) := by
  unfold greatL
  rw [List.take_succ_eq_append_getElem h, List.foldl_append]
  rfl
theorem greatL_lt {ls : List (List Nat)} (h : ∀ l ∈ ls, Small l) : greatL ls < 18446744073709551616 := by
  unfold greatL
  suffices ∀ m : Nat, m < 18446744073709551616 → ls.foldl (fun m l => max (max m (markA l)) (markB l)) m < 18446744073709551616 by exact this 0 (by omega)
  induction ls with
  | nil => exact fun m hm => hm
  | cons l ls ih =>
    intro m hm
    have h1 := markA_lt (h l (List.mem_cons_self ..))
    have h2 := markB_lt (h l (List.mem_cons_self ..))
    exact ih (fun x hx => h x (List.mem_cons_of_mem _ hx)) _ (show max (max m (markA l)) (markB l) < _ by omega)
theorem max3_val (v x y : Nat) : (if (if v < x then (x : Int) else (v : Int)) < (y : Int) then (y : Int) else if v < x then (x : Int) else (v : Int)) = ((max (max v x) y : Nat) : Int) := by
  by_cases q : v < x
  · rw [if_pos q]; split <;> omega
  · rw [if_neg q]; split <;> omega
set_option maxHeartbeats 1000000 in
theorem great_any (A : Option Addr) (c : Nat) (L : List Value) (ls : List (List Nat)) (B : Nat) (w : World) (h1 : At w B A L) (hr : Reads w B L ls) (hl : ls.length ≤ 1000) (hl2 : ∀ l ∈ ls, l.length ≤ 200) :
    Calls Try.prog 16 #[.slice A ls.length c] w fun e w' => e = .returned (.int .u64 (greatL ls : Nat)) ∧ Drew w w' := by
  go_enter Try.func16, Try.ntmps16
  go_wp2_with fail
  go_loopw [3, 11] (fun x i wr => ∃ k v : Nat, k ≤ ls.length ∧ i = .int .i64 k ∧ x = .int .u64 v ∧ v < 18446744073709551616 ∧ Hid (v = greatL (ls.take k)) ∧ Drew w wr) (fun _ i _ => ls.length - (intOf i).toNat)
  case atStart => exact ⟨0, 0, Nat.zero_le _, rfl, rfl, by omega, rfl, Drew.refl w⟩
  case round =>
    obtain ⟨k, v, hk, rfl, rfl, hv, H, hd⟩ := hrel
    rcases Nat.lt_or_ge k ls.length with hlt | hge
    · have hk1 : decide ((k : Int) < (ls.length : Int)) = true := by rw [decide_eq_true_iff]; omega
      obtain ⟨A1, c1, e1, hc1, b1⟩ := (hr.below (hd.below B)).2 k _ (List.getElem?_eq_getElem hlt)
      obtain ⟨b, o, rfl, _, q1⟩ := (h1.below (hd.below B)) k (by rw [hr.1]; exact hlt)
      rw [← List.getElem?_eq_getElem, e1] at q1
      have hln := hl2 _ (List.getElem_mem hlt)
      have hc := marks_any A1 c1 ls[k] B _ b1 hc1 (by omega)
      have hA := markA_lt b1.2
      have hB := markB_lt b1.2
      have hnx := greatL_next hlt
      rw [← H.out] at hnx
      clear e1 h1 hr b1 H
      generalize ls[k] = s at *
      generalize markA s = x at *
      generalize markB s = y at *
      have HN := Lib.hid hnx
      clear hnx
      go_wp2_with (go_at_call 23; refine hc.mono ?_; rintro e w1 ⟨rfl, m1, rfl⟩)
      refine ⟨⟨k + 1, max (max v x) y, by omega, by go_num, ?_, by omega, HN.out.symm, hd.more m1⟩, by simp [intOf]; omega⟩
      congr 1
      exact max3_val v x y
    · obtain rfl : k = ls.length := by omega
      have hk1 : decide ((ls.length : Int) < (ls.length : Int)) = false := by rw [decide_eq_false_iff_not]; omega
      go_wp2
      go_ret
      exact ⟨ret_nat (by rw [H.out, List.take_length]), hd⟩
set_option maxHeartbeats 4000000 in
theorem refgreat_any (A : Option Addr) (c : Nat) (L : List Value) (ls : List (List Nat)) (B : Nat) (w : World) (h1 : At w B A L) (hr : Reads w B L ls) (hl : ls.length ≤ 1000) (hl2 : ∀ l ∈ ls, l.length ≤ 200) :
    Calls Try.prog 17 #[.slice A ls.length c] w fun e w' => e = .returned (.int .u64 (greatL ls : Nat)) ∧ Drew w w' := by
  go_enter Try.func17, Try.ntmps17
  go_wp2_with fail
  go_loopw [3, 4] (fun x i wr => ∃ k v : Nat, k ≤ ls.length ∧ i = .int .i64 k ∧ x = .int .u64 v ∧ v < 18446744073709551616 ∧ Hid (v = greatL (ls.take k)) ∧ Drew w wr) (fun _ i _ => ls.length - (intOf i).toNat)
  case atStart => exact ⟨0, 0, Nat.zero_le _, rfl, rfl, by omega, rfl, Drew.refl w⟩
  case round =>
    obtain ⟨k, v, hk, rfl, rfl, hv, H, hd⟩ := hrel
    rcases Nat.lt_or_ge k ls.length with hlt | hge
    · have hk1 : decide ((k : Int) < (ls.length : Int)) = true := by rw [decide_eq_true_iff]; omega
      obtain ⟨A1, c1, e1, hc1, b1⟩ := (hr.below (hd.below B)).2 k _ (List.getElem?_eq_getElem hlt)
      obtain ⟨b, o, rfl, _, q1⟩ := (h1.below (hd.below B)) k (by rw [hr.1]; exact hlt)
      rw [← List.getElem?_eq_getElem, e1] at q1
      have hln := hl2 _ (List.getElem_mem hlt)
      have hA := markA_lt b1.2
      have hB := markB_lt b1.2
      have hnx := greatL_next hlt
      rw [← H.out] at hnx
      by_cases h128 : (ls[k]).length = 128
      · have ht : ((ls[k].length : Int) == 128) = true := by rw [h128]; rfl
        have c1h : ∀ W, Drew wr W → Calls Try.prog 24 #[.slice A1 128 c1] W fun e w' => e = .returned (.int .u64 (markA ls[k] : Nat)) ∧ Drew W w' := fun W hW => by
          have := refget_any A1 c1 ls[k] B W (b1.below (hW.below B)) (by omega)
          rw [h128] at this
          rw [show markA ls[k] = getL (ls[k].take 8) from if_pos h128]
          exact this
        obtain ⟨b', o', eA, -, -⟩ := b1.at_ (k := 0) (by omega)
        have c2h : ∀ W, Drew wr W → Calls Try.prog 24 #[.slice (some ⟨b', o' + 120, none⟩) 8 (c1 - 120)] W fun e w' => e = .returned (.int .u64 (markB ls[k] : Nat)) ∧ Drew W w' := fun W hW => by
          have := refget_any (shift A1 120) (c1 - 120) (ls[k].drop 120) B W ((b1.below (hW.below B)).drop 120) (by simp; omega)
          rw [show (ls[k].drop 120).length = 8 by simp; omega, eA] at this
          rw [show markB ls[k] = getL ((ls[k].drop 120).take 8) from if_pos h128]
          exact this
        subst eA
        rw [h128] at hc1 q1
        have hc3 : (128 : Int) ≤ (c1 : Int) := by omega
        have hk0 : (0 : Int) ≤ (k : Int) := by omega
        have hk2 : (k : Int) < (ls.length : Int) := by omega
        clear e1 h1 hr b1 H
        generalize markA ls[k] = x at *
        generalize markB ls[k] = y at *
        have HN := Lib.hid hnx
        clear hnx h128 ht
        have hz : Drew wr wr := Drew.refl wr
        have hz1 : Drew wr wr.drew := hz.more 1
        go_wp2_with fail
        go_region_held3 (fun w' => w'.cell? ⟨b, o + k, none⟩ = some (.slice (some ⟨b', o', none⟩) 128 c1)) (exact q1) (first
          | ((with_reducible refine (c1h _ ?_).mono ?_); (repeat (first | exact hz | exact hz1 | refine Drew.more ?_ _)); rintro e w1 ⟨rfl, m1, rfl⟩)
          | ((with_reducible refine (c2h _ ?_).mono ?_); (repeat (first | exact hz | exact hz1 | refine Drew.more ?_ _)); rintro e w1 ⟨rfl, m1, rfl⟩)
          | fail)
        all_goals
          go_wp2
          refine ⟨⟨k + 1, max (max v x) y, by omega, by go_num, by (congr 1; exact max3_val v x y), by omega, HN.out.symm, ?_⟩, by simp [intOf]; omega⟩
          repeat (first | exact hd | exact hd.more 1 | refine Drew.more ?_ _)
      · have ht : ((ls[k].length : Int) == 128) = false := by rw [beq_eq_false_iff_ne]; omega
        have hx0 : markA ls[k] = 0 := if_neg h128
        have hy0 : markB ls[k] = 0 := if_neg h128
        rw [hx0, hy0] at hnx
        clear e1 h1 hr b1 H hA hB hx0 hy0
        generalize ls[k] = s at *
        have HN := Lib.hid hnx
        clear hnx
        go_wp2
        refine ⟨⟨k + 1, v, by omega, by go_num, rfl, hv, ?_, hd⟩, by simp [intOf]; omega⟩
        show v = _
        rw [HN.out]
        omega
    · obtain rfl : k = ls.length := by omega
      have hk1 : decide ((ls.length : Int) < (ls.length : Int)) = false := by rw [decide_eq_false_iff_not]; omega
      go_wp2
      go_ret
      exact ⟨ret_nat (by rw [H.out, List.take_length]), hd⟩
end Go.Proofs.Ytkmfacmigonbcaa
