/- The contract of codec.Asked. Conditions: as stated. -/
import Derived.Test.YtciidogbojbkiaaCodecMay
namespace Go.Proofs.Ytciidogbojbkiaa
open Go.ChangeShapes Go.WideShapes Go.ChangeAt Go.RowKit
open NumMath
set_option linter.unusedVariables false
set_option linter.unusedSimpArgs false
set_option maxRecDepth 20000

def askedC (l : List Nat) : Req × Nat := if l.length = 38 ∧ mayR (askedL l) = true then (askedL l, 0) else (Req.zero, 230)
def reqZ : Array Value := #[.int .u8 0, .int .u32 0, .int .u8 0, .int .u32 0, .int .u32 0, .int .u32 0, .int .u32 0, .int .u64 0, .int .u64 0]
theorem reqV_zero : reqV Req.zero = .agg #[.int .u8 0, .int .u32 0, .int .u8 0, .int .u32 0, .int .u32 0, .int .u32 0, .int .u32 0, .int .u64 0, .int .u64 0] := rfl
theorem rd_start2 (w : World) (cs : Array Value) (t : TypeId) (v : Value) : Blk ((w.alloc (.cells cs t)).alloc (.cells #[v] 50)) w.heap.size t cs := (Blk.new w t cs).alloc _
theorem Rd.keepBlk {w w' : World} {B p : Nat} {l l' : List Nat} (h : Rd w B p l w) (h' : Rd w B p l' w') {g : Nat} {t : TypeId} {cs : Array Value} (hb : Blk w g t cs) (hne : g ≠ p) : Blk w' g t cs := h'.blk hb hne

set_option maxHeartbeats 3000000 in
theorem asked_any (A : Option Addr) (c : Nat) (l : List Nat) (w : World) (hb : Bytes w w.heap.size A l) (hc : l.length ≤ c) (hl : l.length ≤ 100000) :
    Calls Try.prog 9 #[.slice A l.length c] w fun e w' => e = .returned (.tuple #[reqV (askedC l).1, .int .u16 ((askedC l).2 : Nat)]) ∧ Below w.heap.size w w' := by
  by_cases h38 : l.length = 38
  · have ht : ((l.length : Int) != 38) = false := by rw [h38]; rfl
    obtain ⟨hr0, hb0, hsz, -, -⟩ := rd_start w #[.int .u8 0, .int .u32 0, .int .u8 0, .int .u32 0, .int .u32 0, .int .u32 0, .int .u32 0, .int .u64 0, .int .u64 0] 27 hb hc
    have k0 := rd_start2 w #[.int .u8 0, .int .u32 0, .int .u8 0, .int .u32 0, .int .u32 0, .int .u32 0, .int .u32 0, .int .u64 0, .int .u64 0] 27 (.slice A l.length c)
    have hs := hb.2
    have hfit := askedL_fits hs
    have hmay := may_any (askedL l) hfit
    obtain ⟨R, hR⟩ : ∃ R, askedL l = R := ⟨_, rfl⟩
    have r1 : getL (seg l 0 1) = R.k := by rw [← hR]; rfl
    have r2 : getL (seg l 1 4) = R.n := by rw [← hR]; rfl
    have r3 : getL (seg l 5 1) = R.ok := by rw [← hR]; rfl
    have r4 : getL (seg l 6 4) = R.who := by rw [← hR]; rfl
    have r5 : getL (seg l 10 4) = R.whom := by rw [← hR]; rfl
    have r6 : getL (seg l 14 4) = R.what := by rw [← hR]; rfl
    have r7 : getL (seg l 18 4) = R.id := by rw [← hR]; rfl
    have r8 : getL (seg l 22 8) = R.on := by rw [← hR]; rfl
    have r9 : getL (seg l 30 8) = R.pr := by rw [← hR]; rfl
    have e : askedC l = if mayR R = true then (R, 0) else (Req.zero, 230) := by
      unfold askedC
      rw [hR]
      by_cases hm : mayR R = true
      · rw [if_pos ⟨h38, hm⟩, if_pos hm]
      · rw [if_neg (fun q => hm q.2), if_neg hm]
    rw [hR] at hmay hfit
    have n1 := fun W h => rn_any l 0 1 (by omega) w.heap.size (w.heap.size + 1) W h (by omega) hl
    have n2 := fun W h => rsmall_any l 1 w.heap.size (w.heap.size + 1) W h (by omega) hl hs
    have n3 := fun W h => rn_any l 5 1 (by omega) w.heap.size (w.heap.size + 1) W h (by omega) hl
    have n4 := fun W h => rsmall_any l 6 w.heap.size (w.heap.size + 1) W h (by omega) hl hs
    have n5 := fun W h => rsmall_any l 10 w.heap.size (w.heap.size + 1) W h (by omega) hl hs
    have n6 := fun W h => rsmall_any l 14 w.heap.size (w.heap.size + 1) W h (by omega) hl hs
    have n7 := fun W h => rsmall_any l 18 w.heap.size (w.heap.size + 1) W h (by omega) hl hs
    have n8 := fun W h => rn_any l 22 8 (by omega) w.heap.size (w.heap.size + 1) W h (by omega) hl
    have n9 := fun W h => rn_any l 30 8 (by omega) w.heap.size (w.heap.size + 1) W h (by omega) hl
    rw [r1] at n1; rw [r2] at n2; rw [r3] at n3; rw [r4] at n4; rw [r5] at n5; rw [r6] at n6; rw [r7] at n7; rw [r8] at n8; rw [r9] at n9
    rw [e]
    clear e hR r1 r2 r3 r4 r5 r6 r7 r8 r9 h38
    obtain ⟨k, n, ok, who, whom, what, id, on, pr⟩ := R
    obtain ⟨f1, f2, f3, f4, f5, f6, f7, f8, f9⟩ := hfit
    simp only at f1 f2 f3 f4 f5 f6 f7 f8 f9 n1 n2 n3 n4 n5 n6 n7 n8 n9
    go_enter Try.func9, Try.ntmps9
    go_wp2_with fail
    generalize World.alloc (World.alloc w _) _ = W0 at *
    refine (n1 W0 hr0).mono ?_
    rintro e w1 ⟨rfl, hr1⟩
    have k1 := hr1.blk k0 (by omega)
    have b1 := hb0.trans (hr1.below (n := w.heap.size) (by omega) (by omega))
    have s1 := hr1.size
    go_wp2_with fail
    refine (n2 w1 hr1.rebase).mono ?_
    rintro e w2 ⟨rfl, hr2⟩
    have k2 := hr2.blk k1 (by omega)
    have b2 := b1.trans (hr2.below (n := w.heap.size) (by omega) (by omega))
    have s2 := hr2.size
    clear n1 n2 hr0 k0 hr1 k1
    go_upto_region 5 with fail
    have q2 := hr2.rebase.alloc (.cells #[.int .u8 k, .int .u32 n, .int .u8 0, .int .u32 0, .int .u32 0, .int .u32 0, .int .u32 0, .int .u64 0, .int .u64 0] 27)
    have kg := Blk.new w2 27 #[.int .u8 k, .int .u32 n, .int .u8 0, .int .u32 0, .int .u32 0, .int .u32 0, .int .u32 0, .int .u64 0, .int .u64 0]
    have k3 := k2.alloc (.cells #[.int .u8 k, .int .u32 n, .int .u8 0, .int .u32 0, .int .u32 0, .int .u32 0, .int .u32 0, .int .u64 0, .int .u64 0] 27)
    have b3 := b2.alloc b2.size (.cells #[.int .u8 k, .int .u32 n, .int .u8 0, .int .u32 0, .int .u32 0, .int .u32 0, .int .u32 0, .int .u64 0, .int .u64 0] 27)
    have s3 : w2.heap.size < (w2.alloc (.cells #[.int .u8 k, .int .u32 n, .int .u8 0, .int .u32 0, .int .u32 0, .int .u32 0, .int .u32 0, .int .u64 0, .int .u64 0] 27)).heap.size := by simp
    have sg : w.heap.size + 1 < w2.heap.size := by omega
    clear hr2 k2 b2
    generalize World.alloc w2 _ = W3 at *
    generalize w2.heap.size = g at *
    go_wp2_with fail
    refine (n3 W3 q2).mono ?_
    rintro e x3 ⟨rfl, h0_⟩
    have k0_ := h0_.blk k3 (by omega)
    have g0_ := h0_.blk kg (by omega)
    have b0_ := b3.trans (h0_.below (n := w.heap.size) (by omega) (by omega))
    have s0_ := h0_.size
    have q0_ := h0_.rebase
    clear k3 kg q2 h0_ n3
    go_wp2_with fail
    refine (n4 x3 q0_).mono ?_
    rintro e x4 ⟨rfl, h1_⟩
    have k1_ := h1_.blk k0_ (by omega)
    have g1_ := h1_.blk g0_ (by omega)
    have b1_ := b0_.trans (h1_.below (n := w.heap.size) (by omega) (by omega))
    have s1_ := h1_.size
    have q1_ := h1_.rebase
    clear k0_ g0_ q0_ h1_ n4
    go_wp2_with fail
    refine (n5 x4 q1_).mono ?_
    rintro e x5 ⟨rfl, h2_⟩
    have k2_ := h2_.blk k1_ (by omega)
    have g2_ := h2_.blk g1_ (by omega)
    have b2_ := b1_.trans (h2_.below (n := w.heap.size) (by omega) (by omega))
    have s2_ := h2_.size
    have q2_ := h2_.rebase
    clear k1_ g1_ q1_ h2_ n5
    go_wp2_with fail
    refine (n6 x5 q2_).mono ?_
    rintro e x6 ⟨rfl, h3_⟩
    have k3_ := h3_.blk k2_ (by omega)
    have g3_ := h3_.blk g2_ (by omega)
    have b3_ := b2_.trans (h3_.below (n := w.heap.size) (by omega) (by omega))
    have s3_ := h3_.size
    have q3_ := h3_.rebase
    clear k2_ g2_ q2_ h3_ n6
    go_wp2_with fail
    refine (n7 x6 q3_).mono ?_
    rintro e x7 ⟨rfl, h4_⟩
    have k4_ := h4_.blk k3_ (by omega)
    have g4_ := h4_.blk g3_ (by omega)
    have b4_ := b3_.trans (h4_.below (n := w.heap.size) (by omega) (by omega))
    have s4_ := h4_.size
    have q4_ := h4_.rebase
    clear k3_ g3_ q3_ h4_ n7
    have cg := g4_.cell
    have fg := g4_.frozen
    go_upto_region 6 with fail
    clear cg fg
    have g5_ := (((((((g4_.set_ 2 (.int .u8 ok)).set_ 3 (.int .u32 who)).set_ 4 (.int .u32 whom)).set_ 5 (.int .u32 what)).set_ 6 (.int .u32 id)).set_ 7 (.int .u64 0)).set_ 8 (.int .u64 0))
    have k5_ := (((((((k4_.far (p := ⟨g, 2, none⟩) (show w.heap.size ≠ g by omega) (.int .u8 ok)).far (p := ⟨g, 3, none⟩) (show w.heap.size ≠ g by omega) (.int .u32 who)).far (p := ⟨g, 4, none⟩) (show w.heap.size ≠ g by omega) (.int .u32 whom)).far (p := ⟨g, 5, none⟩) (show w.heap.size ≠ g by omega) (.int .u32 what)).far (p := ⟨g, 6, none⟩) (show w.heap.size ≠ g by omega) (.int .u32 id)).far (p := ⟨g, 7, none⟩) (show w.heap.size ≠ g by omega) (.int .u64 0)).far (p := ⟨g, 8, none⟩) (show w.heap.size ≠ g by omega) (.int .u64 0))
    have b5_ := (((((((b4_.setCell (p := ⟨g, 2, none⟩) (show w.heap.size ≤ g by omega) (.int .u8 ok)).setCell (p := ⟨g, 3, none⟩) (show w.heap.size ≤ g by omega) (.int .u32 who)).setCell (p := ⟨g, 4, none⟩) (show w.heap.size ≤ g by omega) (.int .u32 whom)).setCell (p := ⟨g, 5, none⟩) (show w.heap.size ≤ g by omega) (.int .u32 what)).setCell (p := ⟨g, 6, none⟩) (show w.heap.size ≤ g by omega) (.int .u32 id)).setCell (p := ⟨g, 7, none⟩) (show w.heap.size ≤ g by omega) (.int .u64 0)).setCell (p := ⟨g, 8, none⟩) (show w.heap.size ≤ g by omega) (.int .u64 0))
    have q5_ := (((((((q4_.far (show w.heap.size + 1 ≠ g by omega) (by omega) 2 (.int .u8 ok)).far (show w.heap.size + 1 ≠ g by omega) (by omega) 3 (.int .u32 who)).far (show w.heap.size + 1 ≠ g by omega) (by omega) 4 (.int .u32 whom)).far (show w.heap.size + 1 ≠ g by omega) (by omega) 5 (.int .u32 what)).far (show w.heap.size + 1 ≠ g by omega) (by omega) 6 (.int .u32 id)).far (show w.heap.size + 1 ≠ g by omega) (by omega) 7 (.int .u64 0)).far (show w.heap.size + 1 ≠ g by omega) (by omega) 8 (.int .u64 0))
    have s5_ : w.heap.size + 2 ≤ ((((((((x7.setCell ⟨g, 2, none⟩ (.int .u8 ok)).setCell ⟨g, 3, none⟩ (.int .u32 who)).setCell ⟨g, 4, none⟩ (.int .u32 whom)).setCell ⟨g, 5, none⟩ (.int .u32 what)).setCell ⟨g, 6, none⟩ (.int .u32 id)).setCell ⟨g, 7, none⟩ (.int .u64 0)).setCell ⟨g, 8, none⟩ (.int .u64 0))).heap.size := by simp only [World.setCell, Array.size_modify]; omega
    simp only [List.setIfInBounds_toArray, List.set_cons_succ, List.set_cons_zero] at g5_
    clear g4_ k4_ b4_ q4_
    generalize World.setCell _ _ _ = W5 at *
    go_wp2_with fail
    refine (n8 W5 q5_).mono ?_
    rintro e W6 ⟨rfl, h6⟩
    have k6 := h6.blk k5_ (by omega)
    have g6 := h6.blk g5_ (by omega)
    have b6 := b5_.trans (h6.below (n := w.heap.size) (by omega) (by omega))
    have s6 := h6.size
    have q6 := h6.rebase
    clear k5_ g5_ q5_ b5_ h6 n8
    have cg := g6.cell
    have fg := g6.frozen
    go_upto_region 7 with fail
    clear cg fg
    have g7 := g6.set_ 7 (.int .u64 on)
    have k7 := k6.far (p := ⟨g, 7, none⟩) (show w.heap.size ≠ g by omega) (.int .u64 on)
    have b7 := b6.setCell (p := ⟨g, 7, none⟩) (show w.heap.size ≤ g by omega) (.int .u64 on)
    have q7 := q6.far (show w.heap.size + 1 ≠ g by omega) (by omega) 7 (.int .u64 on)
    have s7 : w.heap.size + 2 ≤ (W6.setCell ⟨g, 7, none⟩ (.int .u64 on)).heap.size := by simp only [World.setCell, Array.size_modify]; omega
    simp only [List.setIfInBounds_toArray, List.set_cons_succ, List.set_cons_zero] at g7
    clear g6 k6 b6 q6
    generalize World.setCell _ _ _ = W7 at *
    go_wp2_with fail
    refine (n9 W7 q7).mono ?_
    rintro e W8 ⟨rfl, h8⟩
    have k8 := h8.blk k7 (by omega)
    have g8 := h8.blk g7 (by omega)
    have b8 := b7.trans (h8.below (n := w.heap.size) (by omega) (by omega))
    have s8 := h8.size
    clear k7 g7 q7 b7 n9 h8
    have cg := g8.cell
    have fg := g8.frozen
    go_upto_region 8 with fail
    clear cg fg
    have g9 := g8.set_ 8 (.int .u64 pr)
    have k9 := k8.far (p := ⟨g, 8, none⟩) (show w.heap.size ≠ g by omega) (.int .u64 pr)
    have b9 := b8.setCell (p := ⟨g, 8, none⟩) (show w.heap.size ≤ g by omega) (.int .u64 pr)
    simp only [List.setIfInBounds_toArray, List.set_cons_succ, List.set_cons_zero] at g9
    clear g8 k8 b8
    generalize World.setCell _ _ _ = W9 at *
    have cg := g9.cell
    have ck := k9.cell
    have fk := k9.frozen
    go_wp2_with fail
    refine (hmay W9).mono ?_
    rintro e W10 ⟨rfl, h10⟩
    have hg9 := g9.lt
    have hk9 := k9.lt
    have k10 := k9.below h10 hk9
    have g10 := g9.below h10 hg9
    have b10 := b9.trans (h10.mono b9.size)
    clear cg ck fk k9 g9 b9 h10 hmay
    have cg := g10.cell
    have ck := k10.cell
    have fk := k10.frozen
    by_cases hm : mayR ⟨k, n, ok, who, whom, what, id, on, pr⟩ = true
    · rw [hm]
      go_wp2
      have kF := (((((((((k10.set_ 0 (.int .u8 k)).set_ 1 (.int .u32 n)).set_ 2 (.int .u8 ok)).set_ 3 (.int .u32 who)).set_ 4 (.int .u32 whom)).set_ 5 (.int .u32 what)).set_ 6 (.int .u32 id)).set_ 7 (.int .u64 on)).set_ 8 (.int .u64 pr))
      have bF := (((((((((b10.setCell (p := ⟨w.heap.size, 0, none⟩) (Nat.le_refl w.heap.size) (.int .u8 k)).setCell (p := ⟨w.heap.size, 1, none⟩) (Nat.le_refl w.heap.size) (.int .u32 n)).setCell (p := ⟨w.heap.size, 2, none⟩) (Nat.le_refl w.heap.size) (.int .u8 ok)).setCell (p := ⟨w.heap.size, 3, none⟩) (Nat.le_refl w.heap.size) (.int .u32 who)).setCell (p := ⟨w.heap.size, 4, none⟩) (Nat.le_refl w.heap.size) (.int .u32 whom)).setCell (p := ⟨w.heap.size, 5, none⟩) (Nat.le_refl w.heap.size) (.int .u32 what)).setCell (p := ⟨w.heap.size, 6, none⟩) (Nat.le_refl w.heap.size) (.int .u32 id)).setCell (p := ⟨w.heap.size, 7, none⟩) (Nat.le_refl w.heap.size) (.int .u64 on)).setCell (p := ⟨w.heap.size, 8, none⟩) (Nat.le_refl w.heap.size) (.int .u64 pr))
      simp only [List.setIfInBounds_toArray, List.set_cons_succ, List.set_cons_zero] at kF
      clear k10 g10 b10 cg ck fk
      generalize World.setCell _ _ _ = WF at *
      have cF := kF.cell
      exact bodyPost_ret (v := .tuple #[.agg #[.int .u8 k, .int .u32 n, .int .u8 ok, .int .u32 who, .int .u32 whom, .int .u32 what, .int .u32 id, .int .u64 on, .int .u64 pr], .int .u16 0]) (by simp [results, Try.results9, go_sem, cF]) rfl ⟨by first | rfl | (rw [if_pos hm]; rfl) | (rw [if_neg hm]; rfl), bF⟩
    · have hm' : mayR ⟨k, n, ok, who, whom, what, id, on, pr⟩ = false := by simpa using hm
      rw [hm']
      go_wp2
      have kF := (((((((((k10.set_ 0 (.int .u8 0)).set_ 1 (.int .u32 0)).set_ 2 (.int .u8 0)).set_ 3 (.int .u32 0)).set_ 4 (.int .u32 0)).set_ 5 (.int .u32 0)).set_ 6 (.int .u32 0)).set_ 7 (.int .u64 0)).set_ 8 (.int .u64 0))
      have bF := (((((((((b10.setCell (p := ⟨w.heap.size, 0, none⟩) (Nat.le_refl w.heap.size) (.int .u8 0)).setCell (p := ⟨w.heap.size, 1, none⟩) (Nat.le_refl w.heap.size) (.int .u32 0)).setCell (p := ⟨w.heap.size, 2, none⟩) (Nat.le_refl w.heap.size) (.int .u8 0)).setCell (p := ⟨w.heap.size, 3, none⟩) (Nat.le_refl w.heap.size) (.int .u32 0)).setCell (p := ⟨w.heap.size, 4, none⟩) (Nat.le_refl w.heap.size) (.int .u32 0)).setCell (p := ⟨w.heap.size, 5, none⟩) (Nat.le_refl w.heap.size) (.int .u32 0)).setCell (p := ⟨w.heap.size, 6, none⟩) (Nat.le_refl w.heap.size) (.int .u32 0)).setCell (p := ⟨w.heap.size, 7, none⟩) (Nat.le_refl w.heap.size) (.int .u64 0)).setCell (p := ⟨w.heap.size, 8, none⟩) (Nat.le_refl w.heap.size) (.int .u64 0))
      simp only [List.setIfInBounds_toArray, List.set_cons_succ, List.set_cons_zero] at kF
      clear k10 g10 b10 cg ck fk
      generalize World.setCell _ _ _ = WF at *
      have cF := kF.cell
      exact bodyPost_ret (v := .tuple #[.agg #[.int .u8 0, .int .u32 0, .int .u8 0, .int .u32 0, .int .u32 0, .int .u32 0, .int .u32 0, .int .u64 0, .int .u64 0], .int .u16 230]) (by simp [results, Try.results9, go_sem, cF]) rfl ⟨by first | rfl | (rw [if_pos hm]; rfl) | (rw [if_neg hm]; rfl), bF⟩
  · have ht : ((l.length : Int) != 38) = true := by simp; omega
    have e : askedC l = (Req.zero, 230) := by unfold askedC; rw [if_neg (fun q => h38 q.1)]
    rw [e, reqV_zero]
    clear e h38
    go_enter Try.func9, Try.ntmps9
    go_wp2
    exact bodyPost_ret (v := .tuple #[.agg #[.int .u8 0, .int .u32 0, .int .u8 0, .int .u32 0, .int .u32 0, .int .u32 0, .int .u32 0, .int .u64 0, .int .u64 0], .int .u16 230]) (by simp [results, Try.results9, go_sem]) rfl ⟨rfl, (Below.refl _ _).alloc (Nat.le_refl _) _⟩
end Go.Proofs.Ytciidogbojbkiaa
