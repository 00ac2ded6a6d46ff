/- The contracts of the document's Told, and of codec.Tell. Conditions: as stated. -/
import Derived.Test.YtciidogbojbkiaaCodecTold
import Derived.Test.YtciidogbojbkiaaCodecRef
namespace Go.Proofs.Ytciidogbojbkiaa
open Go.ChangeShapes Go.WideShapes Go.ChangeAt Go.RowKit
open NumMath
set_option linter.unusedVariables false
set_option linter.unusedSimpArgs false
set_option maxRecDepth 20000
attribute [local go_sem ↓] Go.wp_at_zero Go.wp_at_succ

theorem refseg_any (A : Option Addr) (c : Nat) (l : List Nat) (i m : Nat) (B : Nat) (w : World) (hb : Bytes w B A (seg l i m)) (hm : i + m ≤ l.length) (h8 : m ≤ 8) :
    Calls Try.prog 22 #[.slice A m c] w fun e w' => e = .returned (.int .u64 (getL (seg l i m) : Nat)) ∧ Drew w w' := by
  have := refget_any A c (seg l i m) B w hb (by rw [seg_length hm]; omega)
  rw [seg_length hm, List.take_of_length_le (by rw [seg_length hm]; omega)] at this
  exact this
theorem Bytes.heap {w w' : World} {B : Nat} {A : Option Addr} {l : List Nat} (h : Bytes w B A l) (e : w'.heap = w.heap) : Bytes w' B A l := ⟨fun j hj => by
  obtain ⟨b, o, e1, hb, hc⟩ := h.1 j hj
  refine ⟨b, o, e1, hb, ?_⟩
  rw [← hc]
  simp only [World.cell?, e], h.2⟩
/-- .. whenever the heap is W0's -/
theorem refseg_at {W0 : World} {A : Option Addr} {l : List Nat} {B : Nat} (hb : Bytes W0 B A l) (i m : Nat) (hm : i + m ≤ l.length) (h8 : m ≤ 8) (A' : Option Addr) (hA : A' = shift A i ∨ (i = 0 ∧ A' = A)) (c : Nat) (W : World) (hW : W.heap = W0.heap) :
    Calls Try.prog 22 #[.slice A' m c] W fun e w' => e = .returned (.int .u64 (getL (seg l i m) : Nat)) ∧ Drew W w' := by
  refine refseg_any A' c l i m B W (Bytes.heap ?_ hW) hm h8
  rcases hA with rfl | ⟨rfl, rfl⟩
  · exact (hb.drop i).take m
  · exact hb.take m

theorem box_frozen (w : World) (cs : Array Value) (t : TypeId) : ∀ o, (w.alloc (.cells cs t)).frozen? ⟨w.heap.size, o, none⟩ = false := fun o => frozen_of_block (heap_alloc_new w _) o
set_option maxHeartbeats 4000000 in
theorem reftold_any (A : Option Addr) (c : Nat) (l : List Nat) (w : World) (hb : Bytes w w.heap.size A l) (hc : l.length ≤ c) (hl : l.length ≤ 100000) :
    Calls Try.prog 15 #[.slice A l.length c] w fun e w' => e = .returned (.tuple #[repV (toldC l).1, .int .i64 ((toldC l).2 : Nat)]) ∧ Below w.heap.size w w' := by
  by_cases h26 : l.length = 26
  · have ht : ((l.length : Int) != 26) = false := by rw [h26]; rfl
    have e : toldC l = (toldL l, 0) := by unfold toldC; rw [if_pos h26]
    rw [e]
    obtain ⟨hb0, hsz, hcs⟩ := box_start w #[.int .u16 0, .int .u64 0, .int .u64 0, .int .u64 0] 42
    have hfz := box_frozen w #[.int .u16 0, .int .u64 0, .int .u64 0, .int .u64 0] 42
    have hfit := toldL_fits hb.2
    unfold toldL at hfit ⊢
    obtain ⟨f1, f2, f3, f4⟩ := hfit
    simp only at f1 f2 f3 f4
    have hbb := hb.below hb0
    have hw0 : IntKind.u16.wrap ((getL (seg l 0 2) : Nat) : Int) = ((getL (seg l 0 2) : Nat) : Int) := by rw [IntKind.wrap_u16]; omega
    have hc26 : (26 : Int) ≤ (c : Int) := by omega
    have hc2 : (2 : Int) ≤ (c : Int) := by omega
    have hc10 : (10 : Int) ≤ (c : Int) := by omega
    have hc18 : (18 : Int) ≤ (c : Int) := by omega
    have hn2 : ¬ c = 2 := by omega
    have hn10 : ¬ c = 10 := by omega
    have hn18 : ¬ c = 18 := by omega
    rw [h26]
    go_enter Try.func15, Try.ntmps15
    go_wp2_with fail
    generalize World.alloc w _ = W0 at *
    have q0 := refseg_at hbb 0 2 (by omega) (by omega) A (.inr ⟨rfl, rfl⟩) c
    have q1 := refseg_at hbb 2 8 (by omega) (by omega) _ (.inl rfl) (c - 2)
    have q2 := refseg_at hbb 10 8 (by omega) (by omega) _ (.inl rfl) (c - 10)
    have q3 := refseg_at hbb 18 8 (by omega) (by omega) _ (.inl rfl) (c - 18)
    simp only [shift] at q1 q2 q3
    go_region_held3 (fun _w => True) (exact trivial) (first
      | ((with_reducible refine (q0 _ ?_).mono ?_); (exact rfl); rintro e w1 ⟨rfl, m1, rfl⟩)
      | ((with_reducible refine (q1 _ ?_).mono ?_); (exact rfl); rintro e w1 ⟨rfl, m1, rfl⟩)
      | ((with_reducible refine (q2 _ ?_).mono ?_); (exact rfl); rintro e w1 ⟨rfl, m1, rfl⟩)
      | ((with_reducible refine (q3 _ ?_).mono ?_); (exact rfl); rintro e w1 ⟨rfl, m1, rfl⟩))
    go_wp2
    refine bodyPost_ret (v := .tuple #[.agg #[.int .u16 (getL (seg l 0 2) : Nat), .int .u64 (getL (seg l 2 8) : Nat), .int .u64 (getL (seg l 10 8) : Nat), .int .u64 (getL (seg l 18 8) : Nat)], .int .i64 0]) (by simp [results, Try.results15, go_sem, hcs]) rfl ⟨rfl, ?_⟩
    repeat (first | exact hb0 | refine Below.setCell ?_ (by exact Nat.le_refl _) _ | refine below_drewN ?_ _ | refine Below.drew ?_)
  · have ht : ((l.length : Int) != 26) = true := by simp; omega
    have e : toldC l = (Rep.zero, 230) := by unfold toldC; rw [if_neg h26]
    rw [e, repV_zero]
    clear e h26
    go_enter Try.func15, Try.ntmps15
    go_wp2
    exact bodyPost_ret (v := .tuple #[.agg #[.int .u16 0, .int .u64 0, .int .u64 0, .int .u64 0], .int .i64 230]) (by simp [results, Try.results15, go_sem]) rfl ⟨rfl, (Below.refl _ _).alloc (Nat.le_refl _) _⟩
end Go.Proofs.Ytciidogbojbkiaa
