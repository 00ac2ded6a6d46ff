/- page: the document's New, Slots, Get, Clear. Conditions: its page lies there. -/
import Derived.Test.YtkknfccfgmflmaaPgRefW
import Derived.StillTailTactics
namespace Go.Proofs.Ytkknfccfgmflmaa
open Go.ChangeShapes Go.WideShapes Go.ChangeAt Go.RowKit
open NumMath
set_option linter.unusedVariables false
set_option linter.unusedSimpArgs false
set_option maxRecDepth 20000

theorem rpA_N (n : Nat) : (rpA (rpZero 0)).setIfInBounds 1 (.int .u32 (n : Int)) = rpA (rpZero n) := rpA_set _ _ _ _ fun j hj => by
  unfold rpV
  by_cases h : 1 = j
  · subst h
    rfl
  · have h1 : ¬ j = 1 := fun e => h e.symm
    rw [if_neg h, if_neg h1, if_neg h1]
    rfl
theorem rnew_any (n : Nat) (hn : n < 4294967296) (w : World) :
    Calls Try.prog 19 #[.int .u32 n] w fun e w' => e = .returned (.pointer (some ⟨w.heap.size, 0, none⟩)) ∧ RAt w' w.heap.size (rpZero n) ∧ Below w.heap.size w w' := by
  have hz : Try.zeroCells70 = rpA (rpZero 0) := by kernel_rfl
  have hN := rpA_N n
  rw [← hz] at hN
  have FIN : Hid (RAt (w.alloc (.cells (Try.zeroCells70.setIfInBounds 1 (.int .u32 (n : Int))) 70)) w.heap.size (rpZero n) ∧ Below w.heap.size w (w.alloc (.cells (Try.zeroCells70.setIfInBounds 1 (.int .u32 (n : Int))) 70))) := by
    rw [hN]
    exact Lib.hid ⟨⟨rpZero_fit n hn, Blk.new w _ _⟩, (Below.refl _ _).alloc (Nat.le_refl _) _⟩
  clear hz hN
  go_enter Try.func19, Try.ntmps19
  go_wp2_with fail
  go_ret
  exact ⟨rfl, FIN.out⟩
section
variable {w : World} {gr : Nat} {r : RP}
theorem RAt.bytes (h : RAt w gr r) {a n : Nat} (hn : a + n ≤ 448) : Bytes w w.heap.size (some ⟨gr, 82 + a, none⟩) (cut r.B a n) := by
  refine ⟨fun j hj => ?_, cut_small h.small a n⟩
  rw [List.length_map, cut_length] at hj
  refine ⟨gr, 82 + a, rfl, h.lt, ?_⟩
  rw [Nat.add_assoc, rpc_B h.blk (show a + j < 448 by omega)]
  simp [cut, byteV]
set_option maxHeartbeats 2000000 in
theorem rslots_any (h : RAt w gr r) :
    Calls Try.prog 49 #[.pointer (some ⟨gr, 0, none⟩)] w (RetInts (slotsS r.S 40) w) := by
  obtain ⟨i0, hi0, hz0, hz1, hz2⟩ := info_parts int_info
  have hS := fun (k : Nat) (hk : k < 40) (W : World) (hb : Below w.heap.size w W) => rpc_S (h.below hb).blk hk
  clear h
  go_enter Try.func49, Try.ntmps49
  go_wp2_with fail
  go_loopw [3, 4] (fun v i wr => ∃ k : Nat, k ≤ 40 ∧ i = .int .i64 k ∧ wr.ownsRow w.heap.size 3 1 v (slotsS r.S k).length ((slotsS r.S k).map intV) ∧ Below w.heap.size w wr) (fun _ i _ => 40 - (intOf i).toNat)
  case atStart => exact ⟨0, Nat.zero_le _, rfl, World.ownsRow_nil _ _ _ _, Below.refl _ _⟩
  case round =>
    obtain ⟨k, hk, rfl, hown, hb⟩ := hrel
    obtain ⟨A0, c0, rfl, -, -⟩ := own_form hown
    rcases Nat.lt_or_ge k 40 with hlt | hge
    · have e1 : decide ((k : Int) < 40) = true := by rw [decide_eq_true_iff]; omega
      have e2 : (0 : Int) ≤ (k : Int) := by omega
      have e3 : (k : Int) < 40 := by omega
      have hc := hS k hlt wr hb
      have hnx := slotsS_next r.S k
      have hsl := slotsS_len r.S k
      generalize r.S k = y at *
      have hwr := hb.size
      by_cases hy : 0 < y
      · rw [if_pos hy] at hnx
        have HNX := Lib.hid hnx
        clear hnx hS
        generalize slotsS r.S k = L at *
        obtain ⟨n, hn⟩ : ∃ n, L.length = n := ⟨_, rfl⟩
        rw [hn] at hown hsl
        have HN := Lib.hid hn
        rw [hn]
        clear hn
        go_wp2_with (at_builtin; refine wpList_append_at2 rfl _ _ 29 29 rfl w.heap.size 3 i0 _ 8 Try.underlying29 Try.underlying29 hi0 hz0 hz1 hz2 rfl (.slice A0 n c0) n (L.map intV) rfl (hown.alloc _) (wr.heap.size + 1) (some ⟨wr.heap.size, 0, none⟩) 1 1 [intV k] rfl rfl (At.new wr [intV k] 3 (0, 0)) (by intro u hu; simp at hu; subst hu; rfl) (by unfold maxLen; omega) (by omega) (by simp; omega) ?_; intro A' c' w' hown' hg' _; have HO := Lib.hid (And.intro hown' (below_own (hb.alloc hwr _) hg' (hown.alloc _) (Nat.le_refl _) (by simp; omega))); clear hown' hg' hown hb)
        go_roundw
        case rel => exact ⟨k + 1, by omega, by go_num, by rw [HNX.out, List.length_append, List.map_append, HN.out]; exact HO.out.1, HO.out.2⟩
        case measure => simp [intOf]; omega
      · rw [if_neg hy, List.append_nil] at hnx
        obtain rfl : y = 0 := by omega
        have HNX := Lib.hid hnx
        clear hnx hy hS
        go_wp2
        go_roundw
        case rel => exact ⟨k + 1, by omega, by go_num, by rw [HNX.out]; exact hown, hb⟩
        case measure => simp [intOf]; omega
    · obtain rfl : k = 40 := by omega
      have e1 : decide (((40 : Nat) : Int) < 40) = false := rfl
      clear hS
      go_wp2
      go_ret
      exact ⟨A0, c0, rfl, hown, hb⟩
theorem get_none (w : World) : GetPost [] w (.returned (.tuple #[.slice none 0 0, .bool false])) w := ⟨none, 0, rfl, World.ownsRow_nil _ _ _ _, Below.refl _ _, fun x hx => by cases hx⟩
set_option maxHeartbeats 4000000 in
theorem rget_any (h : RAt w gr r) (s : Int) :
    Calls Try.prog 42 #[.pointer (some ⟨gr, 0, none⟩), .int .i64 s] w (GetPost (getR r s) w) := by
  by_cases h0 : 0 ≤ s ∧ s < 40
  · obtain ⟨k, rfl⟩ := Int.eq_ofNat_of_zero_le h0.1
    have hk : k < 40 := by omega
    have hgr : getR r (k : Int) = cut r.B (r.O k) (r.S k) := by unfold getR; rw [if_pos h0, Int.toNat_natCast]
    rw [hgr]
    have cS := rpc_S h.blk hk
    have cO := rpc_O h.blk hk
    have t1 : decide ((k : Int) < 0) = false := by rw [decide_eq_false_iff_not]; omega
    have t2 : decide ((39 : Int) < (k : Int)) = false := by rw [decide_eq_false_iff_not]; omega
    have e2 : (0 : Int) ≤ (k : Int) := by omega
    have e3 : (k : Int) < 40 := by omega
    have hfit := (h.fit k hk).1
    have hby := h.bytes hfit
    have hlen := cut_length r.B (r.O k) (r.S k)
    have hsz : (r.S k) ≤ 64 := (h.fit k hk).2
    clear hgr h0 h
    generalize r.S k = y at *
    generalize r.O k = x at *
    by_cases hy : y = 0
    · subst hy
      have hnil : cut r.B x 0 = [] := rfl
      rw [hnil]
      clear hby hlen
      go_enter Try.func42, Try.ntmps42
      go_wp2
      go_ret2
      exact get_none w
    · have hy1 : ((y : Int) == 0) = false := by rw [beq_eq_false_iff_ne]; omega
      have hx448 : (448 = x) = False := eq_false (by omega)
      have s1 : (0 : Int) ≤ (x : Int) := by omega
      have s2 : (x : Int) ≤ (x : Int) + (y : Int) := by omega
      have s3 : (x : Int) + (y : Int) ≤ 448 := by omega
      have s4 : IntKind.i64.wrap ((x : Int) + (y : Int)) = (x : Int) + (y : Int) := by rw [IntKind.wrap_i64]; omega
      obtain ⟨i0, hi0, hz0, hz1, hz2⟩ := info_parts u8_info
      generalize cut r.B x y = l at *
      have hd : decide (0 < l.length) = true := decide_eq_true (by omega)
      have HD := Lib.hid hd
      clear hd
      go_enter Try.func42, Try.ntmps42
      go_wp2_with fail
      go_still_tail 24, (by kernel_rfl)
      change wpList _ _ _ _ _ w.drew
      go_wp2_with (at_builtin; refine wpList_append_at2 rfl _ _ 24 24 rfl w.heap.size 5 i0 _ 1 Try.underlying24 Try.underlying24 hi0 hz0 hz1 hz2 rfl (.slice none 0 0) 0 [] rfl (World.ownsRow_nil _ _ _ _) w.heap.size (some ⟨gr, 82 + x, none⟩) (x + y - x) (448 - x) (l.map byteV) rfl (by rw [List.length_map]; omega) hby.1.drew (bytes_oneCell _) (by unfold maxLen; omega) (by omega) (Nat.le_refl _) ?_; intro A1 c1 w1 hown hg hat)
      go_ret2
      refine ⟨A1, c1, ?_, ?_, below_own (below_drew0 w) hg (World.ownsRow_nil w.drew w.heap.size 5 1) (Nat.le_refl _) (Nat.le_refl _), hby.2⟩
      · show Ending.returned (.tuple #[.slice A1 y c1, .bool true]) = _
        rw [HD.out, hlen]
      · have : 0 + (x + y - x) = l.length := by omega
        rw [this] at hown
        simpa using hown
  · have hgr : getR r s = [] := by unfold getR; rw [if_neg h0]
    rw [hgr]
    by_cases h1 : s < 0
    · have t1 : decide (s < 0) = true := by rw [decide_eq_true_iff]; exact h1
      clear h0 h
      go_enter Try.func42, Try.ntmps42
      go_wp2
      go_ret2
      exact get_none w
    · have t1 : decide (s < 0) = false := by rw [decide_eq_false_iff_not]; exact h1
      have t2 : decide (39 < s) = true := by rw [decide_eq_true_iff]; omega
      clear h0 h
      go_enter Try.func42, Try.ntmps42
      go_wp2
      go_ret2
      exact get_none w
end
end Go.Proofs.Ytkknfccfgmflmaa
