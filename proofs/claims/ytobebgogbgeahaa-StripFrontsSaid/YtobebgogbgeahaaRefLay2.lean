/- The contracts of the document's Lay, and of strip.Lay as a call outside fences. Conditions: the stream's length ≤ 100000. -/
import Derived.Test.YtobebgogbgeahaaRefLay
import Derived.WalkArith
namespace Go.Proofs.Ytobebgogbgeahaa
open Go.ChangeShapes Go.WideShapes Go.ChangeAt Go.RowKit
set_option linter.unusedVariables false
set_option linter.unusedSimpArgs false
set_option maxRecDepth 20000

theorem countZ_chunks (l : List Nat) : countZ (l.length : Int) = ((chunks l : Nat) : Int) := by
  unfold countZ chunks
  split <;> omega
theorem chunks_le {l : List Nat} (h : l.length ≤ 100000) : chunks l ≤ 1000 := by unfold chunks; omega
/-- THE CALL HANDS BACK LISTS OF BYTES IN MEMORY OF ITS OWN. -/
def RetRows (ls : List (List Nat)) (w : World) (e : Ending) (w' : World) : Prop :=
  ∃ A c L, e = .returned (.slice A ls.length c) ∧ w'.ownsRow w.heap.size 22 1 (.slice A ls.length c) ls.length L ∧ Rows w' w.heap.size L ls ∧ Below w.heap.size w w'
theorem layOf_length (l : List Nat) : (layOf l).length = chunks l := by simp [layOf]

theorem lay_any (A : Option Addr) (zs : List Nat) (c : Nat) (B0 : Nat) (hcap : zs.length ≤ c) (hlen : zs.length ≤ 100000) (w : World) (hB0 : B0 ≤ w.heap.size) (hat : Bytes w B0 A zs) :
    Calls Try.prog 11 #[.slice A zs.length c] w (RetRows (layOf zs) w) := by
  refine (callsIn_wide (n := 3)).1 ((Lay_in 3 (Nat.le_refl _) A zs c B0 hcap hlen w hB0 hat).mono ?_)
  rintro e W ⟨v, L, rfl, h1, h2, h3⟩
  obtain ⟨A', c', rfl, _⟩ := own_form h1
  rw [← layOf_length] at h1 ⊢
  exact ⟨A', c', L, rfl, h1, h2, h3⟩

set_option maxHeartbeats 2000000 in
theorem reflay_any (A : Option Addr) (c : Nat) (l : List Nat) (B : Nat) (w : World) (hl : Bytes w B A l) (hB : B ≤ w.heap.size) (hn : l.length ≤ 100000) :
    Calls Try.prog 12 #[.slice A l.length c] w (RetRows (layOf l) w) := by
  obtain ⟨i0, hi0, hz0, hz1, hz2⟩ := info_parts slice_info
  have hcz := countZ_chunks l
  have hcl := chunks_le hn
  have hwf : (Lit.int .i64 (l.length : Int)).wf = true := WalkArith.wf_i64 ⟨by omega, by omega⟩
  obtain ⟨N, hN⟩ : ∃ N, chunks l = N := ⟨_, rfl⟩
  rw [hN] at hcz hcl
  go_enter Try.func12, Try.ntmps12
  go_wp2_with fail
  go_loopw [3, 4] (fun v i wr => ∃ (k : Nat) (L : List Value), k ≤ N ∧ i = .int .i64 k ∧ wr.ownsRow w.heap.size 22 1 v k L ∧ Rows wr w.heap.size L ((List.range k).map fun k => sectorOf (chunkOf l k)) ∧ Below w.heap.size w wr) (fun _ i _ => N - (intOf i).toNat)
  case atStart => exact ⟨0, [], by omega, rfl, World.ownsRow_nil _ _ _ _, Rows.nil _ _, Below.refl _ _⟩
  case round =>
    obtain ⟨k, L, hk, rfl, hown, hr, hb⟩ := hrel
    obtain ⟨A0, c0, rfl, -, -⟩ := own_form hown
    have hl1 := hl.below (hb.mono hB)
    go_wp2_with fail
    refine (refcount_any _ _ hwf).mono ?_
    rintro e w1 ⟨rfl, rfl⟩
    rw [hcz]
    rcases Nat.lt_or_ge k N with hlt | hge
    · have ht : decide ((k : Int) < (N : Int)) = true := by rw [decide_eq_true_iff]; omega
      go_wp2_with fail
      refine (sector_any A c l k B _ hl1 (Nat.le_trans hB hb.size) hn (by omega)).mono ?_
      rintro e w2 ⟨g, rfl, hs, hb2⟩
      have hown2 := hown.kept (w' := w2) (row := Option.none) ⟨hb2.os, hb2.tape, hb2.output, hb2.size, fun j hj _ => hb2.block j hj⟩ (by cases h : (Value.slice A0 k c0).ownBlock <;> simp)
      have hr2 := hr.grown (w' := w2) ⟨hb2.os, hb2.tape, hb2.output, hb2.size, fun j hj _ => hb2.block j hj⟩
      have hb3 := hb.trans (hb2.mono hb.size)
      have hcl2 := sectorOf_length (l := chunkOf l k) (by rw [chunkOf_length]; omega)
      have hsm := sectorOf_small (l := chunkOf l k) (by rw [chunkOf_length]; omega) (fun x hx => hl.2 x (List.mem_of_mem_drop (List.mem_of_mem_take hx)))
      have hsz := hb3.size
      have hrow := own_base (b' := w.heap.size) hb.size hs
      clear hl1 hb2 hown hr hb hs
      go_wp2_with (at_builtin; refine wpList_append_at rfl _ _ 26 rfl w.heap.size 22 i0 _ 24 Try.underlying26 hi0 hz0 hz1 hz2 rfl (.slice A0 k c0) k L rfl ?own (w2.heap.size + 1) (some ⟨w2.heap.size, 0, none⟩) 1 1 [.slice (some ⟨g, 0, none⟩) 128 128] rfl rfl (At.new w2 [.slice (some ⟨g, 0, none⟩) 128 128] 22 (0, 0)) (by simp [Value.oneCell']) (by unfold maxLen; omega) (by omega) (by rw [World.size_alloc]; omega) ?_; (case own => exact hown2.kept (World.grownBy_alloc _ _ none) (by cases h : (Value.slice A0 k c0).ownBlock <;> simp)); intro A1 c1 w4 hown4 hg4 hat4)
      have ho4 := Lib.hid hown4
      clear hown4 hat4
      go_roundw
      case rel =>
        have hag := World.grownBy_alloc w2 (.cells #[.slice (some ⟨g, 0, none⟩) 128 128] 22 (0, 0)) none
        have k5 : ∀ (u : Value) (m : List Nat), w2.ownsRow w.heap.size 5 1 u m.length (m.map byteV) → w4.ownsRow w.heap.size 5 1 u m.length (m.map byteV) := fun u m hu =>
          (hu.kept hag (by cases h : u.ownBlock <;> simp)).kept hg4 (own_apart (by decide) hu hown2)
        refine ⟨k + 1, L ++ [.slice (some ⟨g, 0, none⟩) 128 128], by omega, by go_num, ho4.out, ?_, ?_⟩
        · rw [List.range_succ, List.map_append, List.map_singleton]
          refine (hr2.imp k5).snoc ⟨⟨_, _, by rw [hcl2]⟩, k5 _ _ ?_, hsm⟩
          rw [hcl2]
          exact hrow
        · exact below_own (v := .slice A0 k c0) (hb3.alloc hsz _) hg4 (hown2.kept hag (by cases h : (Value.slice A0 k c0).ownBlock <;> simp)) (Nat.le_refl _) (by rw [World.size_alloc]; omega)
      case measure => simp [intOf]; omega
    · obtain rfl : k = N := by omega
      have ht : decide ((k : Int) < (k : Int)) = false := by rw [decide_eq_false_iff_not]; omega
      go_wp2
      go_ret
      subst hN
      refine ⟨A0, c0, L, ?_, ?_, hr, hb⟩
      · exact ret_slice (layOf_length l).symm
      · rw [layOf_length]; exact hown
end Go.Proofs.Ytobebgogbgeahaa
