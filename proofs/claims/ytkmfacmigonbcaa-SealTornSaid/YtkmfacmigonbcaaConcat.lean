/- slices.Grow at nil, slices.Concat over lists of bytes. Conditions: up to 100000 bytes in up to 1000 lists. -/
import Derived.Test.YtkmfacmigonbcaaRB
import Derived.Lib.AppendZeros
namespace Go.Proofs.Ytkmfacmigonbcaa
open Go.ChangeShapes Go.WideShapes Go.ChangeAt Go.RowKit
set_option linter.unusedVariables false
set_option linter.unusedSimpArgs false
set_option maxRecDepth 20000

set_option maxHeartbeats 1000000 in
theorem grow_any (n : Nat) (w : World) (hn : n ≤ 100000) : Calls Try.prog 26 #[.slice none 0 0, .int .i64 n] w fun e w' => ∃ A c, e = .returned (.slice A 0 c) ∧ RB w w' A 0 c [] := by
  rcases Nat.eq_zero_or_pos n with h0 | h0
  · subst h0
    go_enter Try.func26, Try.ntmps26
    go_wp2
    go_ret
    exact ⟨none, 0, rfl, RB.start w⟩
  · obtain ⟨i0, hi0, hz0, hz1, hz2⟩ := info_parts u8_info
    have h1 : decide ((n : Int) < 0) = false := by rw [decide_eq_false_iff_not]; omega
    have h2 : decide ((0 : Int) < (n : Int)) = true := by rw [decide_eq_true_iff]; omega
    have hG := grownCap_ge w n 0 5
    have hG2 := grownCap_le_maxLen w n 0 5 (by unfold maxLen; omega)
    have hrun := fun ty => Lib.run_append_nil_zeros (P := Try.prog) w 22 3 ty 5 i0 _ .i64 .i64 Try.underlying22 Try.underlying3 hi0 hz0 n h0 (by omega) (by omega) (by rw [hz2]; omega)
    obtain ⟨G, hGG⟩ : ∃ G, grownCap w n 0 5 = G := ⟨_, rfl⟩
    rw [hGG] at hrun hG hG2
    clear hGG
    go_enter Try.func26, Try.ntmps26
    go_wp2_with (at_builtin; refine Lib.wpList_append_run _ rfl _ _ 22 3 rfl (.slice none 0 0) (.int .i64 n) rfl rfl _ _ (hrun _) ?_)
    go_ret
    refine ⟨_, G, rfl, ⟨rfl, .inr ⟨w.heap.size, G, _, rfl, Nat.le_refl _, heap_alloc_new w.drew _, Nat.zero_le _, hG2, ?_, by simp⟩⟩, ((Below.refl _ _).drew).alloc (Nat.le_refl _) _, (fun x hx => by cases hx), rfl⟩
    simp [Builtin.zeroCells]
    omega
theorem flat_take {ls : List (List Nat)} {k : Nat} (h : k < ls.length) : (ls.take (k + 1)).flatten = (ls.take k).flatten ++ ls[k] := by
  rw [List.take_succ_eq_append_getElem h, List.flatten_append]
  simp
theorem flat_le (ls : List (List Nat)) (k : Nat) : (ls.take k).flatten.length ≤ ls.flatten.length := by
  have : ls.flatten = (ls.take k).flatten ++ (ls.drop k).flatten := by rw [← List.flatten_append, List.take_append_drop]
  rw [this, List.length_append]
  omega
set_option maxHeartbeats 2000000 in
theorem concat_any (A : Option Addr) (c : Nat) (L : List Value) (ls : List (List Nat)) (B : Nat) (w : World) (h1 : At w B A L) (hr : Reads w B L ls) (hB : B ≤ w.heap.size) (hn : ls.length ≤ 1000) (hs : ls.flatten.length ≤ 100000) :
    Calls Try.prog 21 #[.slice A ls.length c] w (RetBytes 5 ls.flatten w) := by
  go_enter Try.func21, Try.ntmps21
  go_wp2_with fail
  go_loop [3, 5, 11] (fun s _ i => ∃ k m : Nat, k ≤ ls.length ∧ i = .int .i64 k ∧ s = .int .i64 m ∧ m ≤ 100000 ∧ Hid (m = (ls.take k).flatten.length)) (fun _ _ i => ls.length - (intOf i).toNat)
  case atStart => exact ⟨0, 0, Nat.zero_le _, rfl, rfl, by omega, by show 0 = _; simp⟩
  case round =>
    obtain ⟨k, m, hk, rfl, rfl, hm, HM⟩ := hrel
    rcases Nat.lt_or_ge k ls.length with hlt | hge
    · have ht : decide ((k : Int) < (ls.length : Int)) = true := by rw [decide_eq_true_iff]; omega
      obtain ⟨b, o, A1, c1, rfl, _, q1, _, _⟩ := reads_at h1 hr hlt
      have hf := flat_take hlt
      have hfl' := flat_le ls (k + 1)
      have hlen : (ls.take (k + 1)).flatten.length = m + ls[k].length := by rw [hf, List.length_append, HM.out]
      have HL := Lib.hid hlen
      have hmn : m + ls[k].length ≤ 100000 := by omega
      clear hlen hf hfl' h1 hr
      generalize ls[k].length = n at *
      have hn0 : decide ((m : Int) + (n : Int) < 0) = false := by rw [decide_eq_false_iff_not]; omega
      go_wp2
      go_round
      case rel => exact ⟨k + 1, m + n, by omega, by go_num, by go_num, hmn, HL.out.symm⟩
      case measure => simp [intOf]; omega
    · obtain rfl : k = ls.length := by omega
      have ht : decide ((ls.length : Int) < (ls.length : Int)) = false := by rw [decide_eq_false_iff_not]; omega
      have hgrow := grow_any m w hm
      go_wp2_with fail
      refine hgrow.mono ?_
      rintro e w1 ⟨A1, c1, rfl, r1⟩
      clear hgrow
      go_wp2_with fail
      go_loopw [6, 8, 27] (fun v _ i wr => ∃ (k n : Nat) (A2 : Option Addr) (c2 : Nat), k ≤ ls.length ∧ i = .int .i64 k ∧ v = .slice A2 n c2 ∧ RB w wr A2 n c2 (ls.take k).flatten) (fun _ _ i _ => ls.length - (intOf i).toNat)
      case atStart => exact ⟨0, 0, A1, c1, Nat.zero_le _, rfl, rfl, by simpa using r1⟩
      case round =>
        obtain ⟨k, n, A2, c2, hk, rfl, rfl, r2⟩ := hrel
        clear r1
        have hfl := flat_le ls k
        have hn2 := r2.2.2.2
        rcases Nat.lt_or_ge k ls.length with hlt | hge
        · have ht : decide ((k : Int) < (ls.length : Int)) = true := by rw [decide_eq_true_iff]; omega
          have hb := r2.2.1
          obtain ⟨b, o, A3, c3, rfl, hbB, q1, hc3, b3⟩ := reads_at h1 hr hlt
          have q2 := (hb.cell (p := ⟨b, o + k, none⟩) (show b < w.heap.size by omega)).trans q1
          have b3' := b3.below (hb.mono hB)
          have hf := flat_take hlt
          have hfl' := flat_le ls (k + 1)
          have hlen : (ls.take (k + 1)).flatten.length = (ls.take k).flatten.length + ls[k].length := by rw [hf, List.length_append]
          have hnl : (ls.take k).flatten.length = n := hn2
          have hs1 : n + ls[k].length ≤ 1000000 := by omega
          generalize ls[k] = s at *
          have HF := Lib.hid hf
          have hns : n + s.length ≤ 1000000 := hs1
          clear q1 b3 hf hlen hfl hfl' hn2 hnl h1 hr hs1
          go_wp2_with (at_builtin; refine wpList_append_rb rfl _ _ 22 22 rfl Try.underlying22 Try.underlying22 r2 rfl B A3 s.length c3 s rfl b3' rfl hns ?_; intro A4 c4 w4 r4; clear r2)
          go_roundw
          case rel => exact ⟨k + 1, n + s.length, A4, c4, by omega, by go_num, rfl, by rw [HF.out]; exact r4⟩
          case measure => simp [intOf]; omega
        · obtain rfl : k = ls.length := by omega
          have ht : decide ((ls.length : Int) < (ls.length : Int)) = false := by rw [decide_eq_false_iff_not]; omega
          rw [List.take_length] at r2
          have hret := r2.ret (Below.refl _ w)
          clear h1 hr r2 hn2 hfl
          go_wp2
          go_ret
          exact hret
end Go.Proofs.Ytkmfacmigonbcaa
