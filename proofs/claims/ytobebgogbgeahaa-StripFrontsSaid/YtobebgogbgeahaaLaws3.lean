/- The law StripBack, walked. Conditions: none beyond what the row says. -/
import Derived.Test.YtobebgogbgeahaaLaws2
namespace Go.Proofs.Ytobebgogbgeahaa
open Go.ChangeShapes Go.WideShapes Go.ChangeAt Go.RowKit
set_option linter.unusedVariables false
set_option linter.unusedSimpArgs false
set_option maxRecDepth 20000

theorem replicate_small (n : Nat) : Small (List.replicate n 0) := fun x hx => by rw [(List.mem_replicate.1 hx).2]; omega

set_option maxHeartbeats 1000000 in
theorem stripBack_walk (a0 : Option Addr) (len0 cap0 : Nat) (z0 : List Int) (a1 : Int) (w : World) (w0 : IsRow .u8 w a0 len0 cap0 z0) (w1 : (Lit.int .u8 a1).wf = true) :
    Calls Try.prog 5 #[.slice a0 len0 cap0, .int .u8 a1] w fun e w' => e = .returned (.bool true) ∧ Below w.heap.size w w' := by
  obtain ⟨hlc, l, rfl, hl⟩ := w0.bytes
  obtain ⟨k, rfl, hk⟩ := nat_u8 w1
  clear w0 z0 w1
  rcases Nat.lt_or_ge 2000 l.length with hlt | hge
  · have ht : decide ((2000 : Int) < (l.length : Int)) = true := by rw [decide_eq_true_iff]; omega
    go_enter Try.func5, Try.ntmps5
    go_wp2_with (go_at_call 8; refine (known_any _).mono ?_; rintro e w1 ⟨rfl, hb1⟩)
    go_ret
    exact ⟨rfl, hb1⟩
  have ht : decide ((2000 : Int) < (l.length : Int)) = false := by rw [decide_eq_false_iff_not]; omega
  obtain ⟨i0, hi0, hz0, hz1, hz2⟩ := info_parts u8_info
  obtain ⟨j0, hj0, hy0, hy1, hy2⟩ := info_parts slice_info
  go_enter Try.func5, Try.ntmps5
  go_wp2_with fail
  refine (known_any _).mono ?_
  rintro e w2 ⟨rfl, hb2⟩
  go_wp2_with fail
  refine (lay_any a0 l cap0 w2.heap.size hlc (by omega) w2 (Nat.le_refl _) ((hl.below hb2).more hb2.size)).mono ?_
  intro e w4 hret4
  obtain ⟨A4, c4, L4, rfl, hown4, hr4, hb4, -, -⟩ := hret4.is
  have hbw4 := hb2.trans (hb4.mono hb2.size)
  have hcl := chunks_le (l := l) (by omega)
  have hll := layOf_length l
  have hmore := fun m => read_more m l.length l (Nat.le_refl _)
  obtain ⟨N, hN⟩ : ∃ N, chunks l = N := ⟨_, rfl⟩
  rw [hN] at hll hcl
  rw [hll] at hown4 ⊢
  obtain ⟨S, hS⟩ : ∃ S, layOf l = S := ⟨_, rfl⟩
  rw [hS] at hr4 hll hmore
  obtain ⟨m, hm⟩ : ∃ m, k % 9 = m := ⟨_, rfl⟩
  have hm1 : (k : Int) % 9 = (m : Int) := by omega
  have hm2 : (k : Int).tmod 9 = (m : Int) := by rw [Int.tmod_eq_emod_of_nonneg (by omega)]; exact hm1
  have hm9 : m < 9 := by omega
  have hown4' := own_base (b' := w.heap.size) hb2.size hown4
  have hr4' := hr4.imp' (w' := w4) (base' := w.heap.size) (fun v l h => own_base hb2.size h)
  clear hret4 hown4 hr4 hN hm
  go_wp2_with fail
  go_loopw [5, 6] (fun v i wr => ∃ (j : Nat) (L : List Value), j ≤ m ∧ i = .int .i64 j ∧ wr.ownsRow w.heap.size 22 1 v (N + j) L ∧ Rows wr w.heap.size L (S ++ List.replicate j (List.replicate 128 0)) ∧ Below w.heap.size w wr) (fun _ i _ => m - (intOf i).toNat)
  case atStart => exact ⟨0, L4, by omega, rfl, hown4', by simpa using hr4', hbw4⟩
  case round =>
    clear hown4' hr4' hbw4 hb4 hb2
    obtain ⟨j, L, hj, rfl, hown, hr, hb⟩ := hrel
    obtain ⟨A0, c0, rfl, -, -⟩ := own_form hown
    rcases Nat.lt_or_ge j m with hlt | hge
    · have ht : decide ((j : Int) < (m : Int)) = true := by rw [decide_eq_true_iff]; omega
      go_wp2_with (first
        | (at_make; refine wpList_make_full _ rfl _ _ 22 rfl w.heap.size 5 i0 _ 1 Try.underlying22 hi0 hz0 hz1 .i64 .i64 _ _ 128 rfl rfl rfl rfl (by rw [hz2]; omega) (by unfold maxLen; omega) hb.size ?_; intro w5 hown5 hg5; have hb5 : Below w.heap.size w w5 := hb.grown hg5 hb.size (by simp))
        | (at_builtin; refine wpList_append_at rfl _ _ 26 rfl w.heap.size 22 j0 _ 24 Try.underlying26 hj0 hy0 hy1 hy2 rfl (.slice A0 (N + j) c0) (N + j) L rfl ?own (w5.heap.size + 1) (some ⟨w5.heap.size, 0, none⟩) 1 1 [.slice (some ⟨wr.heap.size, 0, none⟩) 128 128] rfl rfl (At.new w5 [.slice (some ⟨wr.heap.size, 0, none⟩) 128 128] 22 (0, 0)) (by simp [Value.oneCell']) (by unfold maxLen; omega) (by omega) (by have := hb.size; have := hg5.size; rw [World.size_alloc]; omega) ?_; (case own => exact (hown.kept hg5 (by cases h : (Value.slice A0 (N + j) c0).ownBlock <;> simp)).kept (World.grownBy_alloc _ _ none) (by cases h : (Value.slice A0 (N + j) c0).ownBlock <;> simp)); intro A6 c6 w6 hown6 hg6 hat6))
      have ho6 := Lib.hid hown6
      clear hown6 hat6
      go_roundw
      case rel =>
        have hag := World.grownBy_alloc w5 (.cells #[.slice (some ⟨wr.heap.size, 0, none⟩) 128 128] 22 (0, 0)) none
        have hown5' := hown.kept hg5 (by cases h : (Value.slice A0 (N + j) c0).ownBlock <;> simp)
        have k5 : ∀ (u : Value) (m : List Nat), w5.ownsRow w.heap.size 5 1 u m.length (m.map byteV) → w6.ownsRow w.heap.size 5 1 u m.length (m.map byteV) := fun u m hu =>
          (hu.kept hag (by cases h : u.ownBlock <;> simp)).kept hg6 (own_apart (by decide) hu hown5')
        refine ⟨j + 1, L ++ [.slice (some ⟨wr.heap.size, 0, none⟩) 128 128], by omega, by go_num, ho6.out, ?_, ?_⟩
        · rw [List.replicate_succ', ← List.append_assoc]
          refine ((hr.grown hg5).imp k5).snoc ⟨⟨_, _, by rw [List.length_replicate]⟩, k5 _ _ ?_, replicate_small _⟩
          have e : (madeCells (Value.int .u8 0).cells (128 * 1)).toList = (List.replicate 128 0).map byteV := by
            rw [Nat.mul_one, List.map_replicate]
            exact toList_madeCells_one _ 128
          rw [e] at hown5
          rw [List.length_replicate]
          exact hown5
        · exact below_own (v := .slice A0 (N + j) c0) (hb5.alloc hb5.size _) hg6 (hown5'.kept hag (by cases h : (Value.slice A0 (N + j) c0).ownBlock <;> simp)) (Nat.le_refl _) (by have := hb5.size; rw [World.size_alloc]; omega)
      case measure => simp [intOf]; omega
    · obtain rfl : j = m := by omega
      have ht : decide ((j : Int) < (j : Int)) = false := by rw [decide_eq_false_iff_not]; omega
      have hlen : (S ++ List.replicate j (List.replicate 128 0)).length = N + j := by simp [hll]
      have hread := read_any A0 c0 L _ wr.heap.size wr (At.own hown) hr.reads (Nat.le_refl _) (by rw [hlen]; omega)
      rw [hmore j, hlen] at hread
      clear hown hr hmore
      go_wp2_with fail
      refine hread.mono ?_
      rintro e w7 hret
      obtain ⟨A7, c7, rfl, -, hb7, hx7⟩ := hret.is
      have hbw7 := hb.trans (hb7.mono hb.size)
      go_wp2_with fail
      refine (same_any A7 a0 c7 cap0 l l w7.heap.size w7 hx7 ((hl.below hbw7).more hbw7.size)).mono ?_
      rintro e w8 ⟨rfl, rfl⟩
      have h2 : decide (l = l) = true := by simp
      rw [h2]
      go_wp2
      go_ret
      exact ⟨rfl, hbw7⟩
end Go.Proofs.Ytobebgogbgeahaa
