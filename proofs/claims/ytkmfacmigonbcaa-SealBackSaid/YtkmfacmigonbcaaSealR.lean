/- The document's Seal: what it makes. Conditions: the stamp fits. -/
import Derived.Test.YtkmfacmigonbcaaSealA
import Derived.Test.YtkmfacmigonbcaaRB
namespace Go.Proofs.Ytkmfacmigonbcaa
open Go.ChangeShapes Go.WideShapes Go.ChangeAt Go.RowKit
open NumMath
set_option linter.unusedVariables false
set_option linter.unusedSimpArgs false
set_option maxRecDepth 20000

theorem refput8 (st : Nat) (hst : st < 18446744073709551616) (W : World) : Calls Try.prog 22 #[.int .u64 st, .int .i64 8] W (RetBytes 5 (putF 8 st) W) := by
  have := refput_any st 8 W hst (by omega) (by omega)
  rw [show putB st 8 = putF 8 st from rfl] at this
  exact this
set_option maxHeartbeats 4000000 in
theorem refseal_any (A : Option Addr) (c : Nat) (zs : List Nat) (B : Nat) (w : World) (hl : Bytes w B A zs) (hB : B ≤ w.heap.size) (hcap : zs.length ≤ c) (st : Nat) (hst : st < 18446744073709551616) (hn : zs.length ≤ 100000) :
    Calls Try.prog 11 #[.slice A zs.length c, .int .u64 st] w (RetRows (sealOf zs st) w) := by
  by_cases h448 : zs.length = 448
  · have ht : ((zs.length : Int) != 448) = false := by rw [h448]; rfl
    obtain ⟨i0, hi0, hz0, hz1, hz2⟩ := info_parts slice_info
    obtain ⟨bb, oo, rfl, hbb, -, -⟩ := hl.at_ (k := 0) (by omega)
    have hso : sealOf zs st = (List.range 4).map fun k => putF 8 st ++ chunkOf zs k ++ putF 8 st := if_pos h448
    have hp8 : (putF 8 st).length = 8 := putF_length 8 st
    rw [hso]
    rw [h448]
    have hcI : (448 : Int) ≤ (c : Int) := by omega
    clear ht hso
    go_enter Try.func11, Try.ntmps11
    go_wp2_with fail
    go_loopw [5, 6, 7] (fun v i _ wr => ∃ (k : Nat) (L : List Value), k ≤ 4 ∧ i = .int .i64 k ∧ wr.ownsRow w.heap.size 22 1 v k L ∧ Rows wr w.heap.size L ((List.range k).map fun k => putF 8 st ++ chunkOf zs k ++ putF 8 st) ∧ Below w.heap.size w wr) (fun _ i _ _ => 4 - (intOf i).toNat)
    case atStart => exact ⟨0, [], by omega, rfl, World.ownsRow_nil _ _ _ _, Rows.nil _ _, Below.refl _ _⟩
    case round =>
      obtain ⟨k, L, hk, rfl, hown, hr, hb⟩ := hrel
      obtain ⟨A0, c0, rfl, -, -⟩ := own_form hown
      have hl1 := hl.below (hb.mono hB)
      rcases Nat.lt_or_ge k 4 with hlt | hge
      · have hk4 : decide ((k : Int) < 4) = true := by rw [decide_eq_true_iff]; omega
        obtain ⟨p, hp⟩ : ∃ p, 112 * k = p := ⟨_, rfl⟩
        have hpI : 112 * (k : Int) = (p : Int) := by omega
        have hp0 : p ≤ 336 := by omega
        go_wp2_with fail
        refine (refput8 st hst _).mono ?_
        rintro e w1 ⟨A1, c1, rfl, ho1, hb1, hs1⟩
        rw [hp8] at ho1
        have r1 : RB wr w1 A1 8 c1 (putF 8 st) := RB.of_ret (Below.refl _ _) ho1 hb1 hs1 hp8
        have hck : chunkOf zs k = (zs.drop p).take 112 := by unfold chunkOf; rw [hp]
        have hcl : (chunkOf zs k).length = 112 := by rw [chunkOf_length, h448]; omega
        have hbc : Bytes wr B (some ⟨bb, oo + p, none⟩) (chunkOf zs k) := by
          rw [hck]
          exact (hl1.drop p).take 112
        have hBw : B ≤ wr.heap.size := Nat.le_trans hB hb.size
        have x1 := hbc.below (hb1.mono hBw)
        have hp448 : (p : Int) + 112 ≤ 448 := by omega
        have hpc : (p : Int) + 112 ≤ (c : Int) := by omega
        obtain ⟨ck, hcke⟩ : ∃ ck, chunkOf zs k = ck := ⟨_, rfl⟩
        have HCK := Lib.hid hcke
        rw [hcke] at x1 hcl
        clear hcke
        clear ho1 hb1 hl1 hbc hck
        go_wp2_with (at_builtin; refine wpList_append_rb rfl _ _ 22 22 rfl Try.underlying22 Try.underlying22 r1 rfl B (some ⟨bb, oo + p, none⟩) 112 (c - p) ck (by show Value.slice (some ⟨bb, oo + p, none⟩) (p + 112 - p) (c - p) = _; rw [Nat.add_sub_cancel_left]) x1 hcl (by omega) ?_; intro A2 c2 w2 r2)
        refine (refput8 st hst _).mono ?_
        rintro e w3 ⟨A3, c3, rfl, ho3, hb3, -⟩
        rw [hp8] at ho3
        have q3 := r2.keep hb3
        have x3 := own_bytes ho3 hs1
        have hbb3 : Below w.heap.size w w3 := hb.trans (q3.2.1.mono hb.size)
        have hown3 := kept_none (below_none q3.2.1) hown
        have hr3 := hr.grown (below_none q3.2.1)
        have hwr := hb.size
        have hw3 := hbb3.size
        clear r1 x1 r2 ho3 hb3
        go_wp2_with (first
          | (at_builtin; refine wpList_append_rb rfl _ _ 22 22 rfl Try.underlying22 Try.underlying22 q3 rfl w3.heap.size A3 8 c3 (putF 8 st) rfl x3 hp8 (by omega) ?_; intro A4 c4 w4 r4; have hb4 : Below w.heap.size w w4 := hb.trans (r4.2.1.mono hb.size); have hown4 := kept_none (below_none r4.2.1) hown; have hr4 := hr.grown (below_none r4.2.1); have hw4 := hb4.size; clear q3 x3 hown3 hr3)
          | (at_builtin; refine wpList_append_at2 rfl _ _ 27 27 rfl w.heap.size 22 i0 _ 24 Try.underlying27 Try.underlying27 hi0 hz0 hz1 hz2 rfl (.slice A0 k c0) k L rfl (hown4.alloc _) (w4.heap.size + 1) (some ⟨w4.heap.size, 0, none⟩) 1 1 [.slice A4 128 c4] rfl rfl (At.new w4 [.slice A4 128 c4] 22 (0, 0)) (by simp [Value.oneCell']) (by unfold maxLen; omega) (by omega) (by rw [World.size_alloc]; omega) ?_; intro A5 c5 w5 hown5 hg5 hat5; have ho5 := Lib.hid hown5; clear hown5 hat5)
          | fail)
        go_roundw
        case rel =>
          have hag := World.grownBy_alloc w4 (.cells #[.slice A4 128 c4] 22 (0, 0)) none
          have k5 : ∀ (u : Value) (m : List Nat), w4.ownsRow w.heap.size 5 1 u m.length (m.map byteV) → w5.ownsRow w.heap.size 5 1 u m.length (m.map byteV) := fun u m hu =>
            (kept_none hag hu).kept hg5 (own_apart (by decide) (kept_none hag hu) (hown4.alloc (.cells #[.slice A4 128 c4] 22 (0, 0))))
          refine ⟨k + 1, L ++ [.slice A4 128 c4], by omega, by go_num, ho5.out, ?_, ?_⟩
          · rw [List.range_succ, List.map_append, List.map_singleton]
            rw [HCK.out]
            have hln : (putF 8 st ++ ck ++ putF 8 st).length = 128 := r4.2.2.2
            refine (hr4.imp k5).snoc ⟨⟨_, _, by rw [hln]⟩, k5 _ _ ?_, r4.2.2.1⟩
            rw [hln]
            exact own_base hb.size r4.1
          · exact below_own (v := .slice A0 k c0) (hb4.alloc hw4 _) hg5 (hown4.alloc _) (Nat.le_refl _) (by rw [World.size_alloc]; omega)
        case measure => simp [intOf]; omega
      · obtain rfl : k = 4 := by omega
        go_wp2
        go_ret
        exact ⟨A0, c0, L, ret_slice (by simp), by simpa using hown, hr, hb⟩
  · have ht : ((zs.length : Int) != 448) = true := by rw [bne_iff_ne]; omega
    have hs0 : sealOf zs st = [] := if_neg h448
    rw [hs0]
    go_enter Try.func11, Try.ntmps11
    go_wp2
    go_ret
    exact ⟨none, 0, [], rfl, World.ownsRow_nil _ _ _ _, Rows.nil _ _, Below.refl _ _⟩
end Go.Proofs.Ytkmfacmigonbcaa
