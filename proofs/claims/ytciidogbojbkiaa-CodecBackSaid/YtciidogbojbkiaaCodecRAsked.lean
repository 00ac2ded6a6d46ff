/- The contract of the document's Asked. Conditions: as stated. -/
import Derived.Test.YtciidogbojbkiaaCodecAsked
import Derived.Test.YtciidogbojbkiaaCodecRTold
namespace Go.Proofs.Ytciidogbojbkiaa
open Go.ChangeShapes Go.WideShapes Go.ChangeAt Go.RowKit
open NumMath
set_option linter.unusedVariables false
set_option linter.unusedSimpArgs false
set_option maxRecDepth 20000
attribute [local go_sem ↓] Go.wp_at_zero Go.wp_at_succ

theorem drewN_alloc (w : World) (n : Nat) (o : Obj) : (w.drewN n).alloc o = (w.alloc o).drewN n := rfl
attribute [local go_sem] drewN_alloc
theorem Bytes.small {w : World} {B : Nat} {A : Option Addr} {l : List Nat} (h : Bytes w B A l) : Small l := h.2
set_option maxHeartbeats 1000000 in
theorem refnumber_any (A : Option Addr) (c : Nat) (l : List Nat) (i : Nat) (B : Nat) (w : World) (hb : Bytes w B A l) (hm : i + 4 ≤ l.length) (hc : l.length ≤ c) (hl : l.length ≤ 100000) (hi : i + 5 ≤ c) :
    Calls Try.prog 21 #[.slice A l.length c, .int .i64 i] w fun e w' => e = .returned (.int .u32 (getL (seg l i 4) : Nat)) ∧ Drew w w' := by
  have hlt : getL (seg l i 4) < 4294967296 := seg_lt hb.2 i 4
  have q := refseg_any _ (c - i) l i 4 B w ((bytes_add hb i).take 4) hm (by omega)
  have h1 : (i : Int) ≤ (c : Int) := by omega
  have h2 : ((i : Int) + 4) ≤ (c : Int) := by omega
  have h3 : ¬ c = i := by omega
  have h4 : (i : Int) + 4 ≤ 200000 := by omega
  have h5 : i + 4 - i = 4 := by omega
  go_enter Try.func21, Try.ntmps21
  go_wp2_with fail
  refine q.mono ?_
  rintro e w1 ⟨rfl, m, rfl⟩
  have hw : IntKind.u32.wrap ((getL (seg l i 4) : Nat) : Int) = ((getL (seg l i 4) : Nat) : Int) := by rw [IntKind.wrap_u32]; omega
  go_wp2_with fail
  go_ret
  exact ⟨rfl, m, rfl⟩
theorem getL_one (x : Nat) : getL [x] = x := by simp [getL]
theorem seg_one {l : List Nat} {i : Nat} (h : i < l.length) : seg l i 1 = [l[i]] := by
  unfold seg
  rw [List.drop_eq_getElem_cons h]
  rfl

set_option maxHeartbeats 8000000 in
theorem refasked_any (A : Option Addr) (c : Nat) (l : List Nat) (w : World) (hb : Bytes w w.heap.size A l) (hc : l.length ≤ c) (hl : l.length ≤ 100000) :
    Calls Try.prog 10 #[.slice A l.length c] w fun e w' => e = .returned (.tuple #[reqV (askedC l).1, .int .i64 ((askedC l).2 : Nat)]) ∧ Below w.heap.size w w' := by
  by_cases h38 : l.length = 38
  · have ht : ((l.length : Int) != 38) = false := by rw [h38]; rfl
    obtain ⟨hb0, hsz, hcs⟩ := box_start w #[.int .u8 0, .int .u32 0, .int .u8 0, .int .u32 0, .int .u32 0, .int .u32 0, .int .u32 0, .int .u64 0, .int .u64 0] 27
    have k0 := Blk.new w 27 #[.int .u8 0, .int .u32 0, .int .u8 0, .int .u32 0, .int .u32 0, .int .u32 0, .int .u32 0, .int .u64 0, .int .u64 0]
    have hs := hb.2
    have hfit := askedL_fits hs
    obtain ⟨b, o, rfl, hbB, hc5, -⟩ := hb.at_ (k := 5) (by omega)
    obtain ⟨b', o', e', -, hc0, -⟩ := hb.at_ (k := 0) (by omega)
    injection e' with e'
    injection e' with e1 e2
    subst e1
    subst e2
    obtain ⟨R, hR⟩ : ∃ R, askedL l = R := ⟨_, rfl⟩
    have r1 : l[0] = R.k := by rw [← hR]; simp only [askedL]; rw [seg_one (by omega), getL_one]
    have r2 : getL (seg l 1 4) = R.n := by rw [← hR]; rfl
    have r3 : l[5] = R.ok := by rw [← hR]; simp only [askedL]; rw [seg_one (by omega), getL_one]
    have r4 : getL (seg l 6 4) = R.who := by rw [← hR]; rfl
    have r5 : getL (seg l 10 4) = R.whom := by rw [← hR]; rfl
    have r6 : getL (seg l 14 4) = R.what := by rw [← hR]; rfl
    have r7 : getL (seg l 18 4) = R.id := by rw [← hR]; rfl
    have r8 : getL (seg l 22 8) = R.on := by rw [← hR]; rfl
    have r9 : getL (seg l 30 8) = R.pr := by rw [← hR]; rfl
    have e : askedC l = if mayR R = true then (R, 0) else (Req.zero, 230) := by
      unfold askedC
      rw [hR]
      by_cases hm : mayR R = true
      · rw [if_pos ⟨h38, hm⟩, if_pos hm]
      · rw [if_neg (fun q => hm q.2), if_neg hm]
    rw [hR] at hfit
    have n2 : ∀ W, Bytes W w.heap.size (some ⟨b, o, none⟩) l → Calls Try.prog 21 #[.slice (some ⟨b, o, none⟩) l.length c, .int .i64 1] W fun e w' => e = .returned (.int .u32 (getL (seg l 1 4) : Nat)) ∧ Drew W w' := fun W h => refnumber_any _ c l 1 w.heap.size W h (by omega) hc hl (by omega)
    have n4 : ∀ W, Bytes W w.heap.size (some ⟨b, o, none⟩) l → Calls Try.prog 21 #[.slice (some ⟨b, o, none⟩) l.length c, .int .i64 6] W fun e w' => e = .returned (.int .u32 (getL (seg l 6 4) : Nat)) ∧ Drew W w' := fun W h => refnumber_any _ c l 6 w.heap.size W h (by omega) hc hl (by omega)
    have n5 : ∀ W, Bytes W w.heap.size (some ⟨b, o, none⟩) l → Calls Try.prog 21 #[.slice (some ⟨b, o, none⟩) l.length c, .int .i64 10] W fun e w' => e = .returned (.int .u32 (getL (seg l 10 4) : Nat)) ∧ Drew W w' := fun W h => refnumber_any _ c l 10 w.heap.size W h (by omega) hc hl (by omega)
    have n6 : ∀ W, Bytes W w.heap.size (some ⟨b, o, none⟩) l → Calls Try.prog 21 #[.slice (some ⟨b, o, none⟩) l.length c, .int .i64 14] W fun e w' => e = .returned (.int .u32 (getL (seg l 14 4) : Nat)) ∧ Drew W w' := fun W h => refnumber_any _ c l 14 w.heap.size W h (by omega) hc hl (by omega)
    have n7 : ∀ W, Bytes W w.heap.size (some ⟨b, o, none⟩) l → Calls Try.prog 21 #[.slice (some ⟨b, o, none⟩) l.length c, .int .i64 18] W fun e w' => e = .returned (.int .u32 (getL (seg l 18 4) : Nat)) ∧ Drew W w' := fun W h => refnumber_any _ c l 18 w.heap.size W h (by omega) hc hl (by omega)
    have n8 := fun W (h : Bytes W w.heap.size (some ⟨b, o, none⟩) l) => refseg_any _ (c - 22) l 22 8 w.heap.size W ((h.drop 22).take 8) (by omega) (by omega)
    have n9 := fun W (h : Bytes W w.heap.size (some ⟨b, o, none⟩) l) => refseg_any _ (c - 30) l 30 8 w.heap.size W ((h.drop 30).take 8) (by omega) (by omega)
    simp only [shift, Option.map_some] at n8 n9
    rw [r2] at n2; rw [r4] at n4; rw [r5] at n5; rw [r6] at n6; rw [r7] at n7; rw [r8] at n8; rw [r9] at n9
    rw [r1] at hc0; rw [r3] at hc5
    have c0 := (hb0.cell (p := ⟨b, o + 0, none⟩) hbB).trans hc0
    have c5 := (hb0.cell (p := ⟨b, o + 5, none⟩) hbB).trans hc5
    have hbb := hb.below hb0
    have d22 : (22 : Int) ≤ (c : Int) := by omega
    have d30 : (30 : Int) ≤ (c : Int) := by omega
    have d22n : ¬ c = 22 := by omega
    have d30n : ¬ c = 30 := by omega
    rw [Nat.add_zero] at c0
    rw [e]
    rw [h38] at n2 n4 n5 n6 n7 ⊢
    clear e hR r1 r2 r3 r4 r5 r6 r7 r8 r9 hc0 hc5
    obtain ⟨k, n, ok, who, whom, what, id, on, pr⟩ := R
    obtain ⟨f1, f2, f3, f4, f5, f6, f7, f8, f9⟩ := hfit
    simp only at f1 f2 f3 f4 f5 f6 f7 f8 f9 n2 n4 n5 n6 n7 n8 n9 c0 c5
    go_enter Try.func10, Try.ntmps10
    go_upto_region 3 with fail
    generalize World.alloc w _ = W0 at *
    replace hsz : w.heap.size < W0.heap.size := by omega
    go_cut [4] (fun s4 wx => s4 = .pointer (some ⟨W0.heap.size, 0, none⟩) ∧ Blk wx W0.heap.size 25 #[.int .u8 ok, .int .u32 who, .int .u32 whom, .int .u32 what, .int .u32 id, .int .u64 on, .int .u64 pr] ∧ Below W0.heap.size W0 wx)
    case first =>
      have fin1 := fun nn => (((((((((Blk.new W0 25 #[.int .u8 0, .int .u32 0, .int .u32 0, .int .u32 0, .int .u32 0, .int .u64 0, .int .u64 0]).drewN nn).set_ 0 (.int .u8 ok)).set_ 1 (.int .u32 who)).set_ 2 (.int .u32 whom)).set_ 3 (.int .u32 what)).set_ 4 (.int .u32 id)).set_ 5 (.int .u64 on)).set_ 6 (.int .u64 pr))
      simp only [List.setIfInBounds_toArray, List.set_cons_succ, List.set_cons_zero] at fin1
      have fin2 := fun nn => ((((((((below_drewN ((Below.refl W0.heap.size W0).alloc (Nat.le_refl _) (.cells #[.int .u8 0, .int .u32 0, .int .u32 0, .int .u32 0, .int .u32 0, .int .u64 0, .int .u64 0] 25)) nn).setCell (p := ⟨W0.heap.size, 0, none⟩) (Nat.le_refl W0.heap.size) (.int .u8 ok)).setCell (p := ⟨W0.heap.size, 1, none⟩) (Nat.le_refl W0.heap.size) (.int .u32 who)).setCell (p := ⟨W0.heap.size, 2, none⟩) (Nat.le_refl W0.heap.size) (.int .u32 whom)).setCell (p := ⟨W0.heap.size, 3, none⟩) (Nat.le_refl W0.heap.size) (.int .u32 what)).setCell (p := ⟨W0.heap.size, 4, none⟩) (Nat.le_refl W0.heap.size) (.int .u32 id)).setCell (p := ⟨W0.heap.size, 5, none⟩) (Nat.le_refl W0.heap.size) (.int .u64 on)).setCell (p := ⟨W0.heap.size, 6, none⟩) (Nat.le_refl W0.heap.size) (.int .u64 pr))
      have hne := World.new_ne W0 _ c5
      have hbn := fun (O : Obj) => hbb.alloc (by omega) O
      go_region_held3 (fun w' => w'.cell? ⟨b, o + 5, none⟩ = some (.int .u8 ok)) (go_keep)
        (first
          | ((with_reducible refine (n4 _ ?_).mono ?_); (first | exact hbb | exact hbn _); rintro e w1 ⟨rfl, m1, rfl⟩) 
          | ((with_reducible refine (n5 _ ?_).mono ?_); (first | exact hbb | exact hbn _); rintro e w1 ⟨rfl, m1, rfl⟩) 
          | ((with_reducible refine (n6 _ ?_).mono ?_); (first | exact hbb | exact hbn _); rintro e w1 ⟨rfl, m1, rfl⟩) 
          | ((with_reducible refine (n7 _ ?_).mono ?_); (first | exact hbb | exact hbn _); rintro e w1 ⟨rfl, m1, rfl⟩) 
          | ((with_reducible refine (n8 _ ?_).mono ?_); (first | exact hbb | exact hbn _); rintro e w1 ⟨rfl, m1, rfl⟩) 
          | ((with_reducible refine (n9 _ ?_).mono ?_); (first | exact hbb | exact hbn _); rintro e w1 ⟨rfl, m1, rfl⟩))
      all_goals
        go_wp2_with fail
        go_meet
        case rel => exact ⟨rfl, fin1 _, fin2 _⟩
    case rest =>
    obtain ⟨rfl, k4, b4⟩ := hcut
    have z1 := k0.below b4 hsz
    have b5 := hb0.trans (b4.mono hb0.size)
    have c1 := (b4.cell (p := ⟨b, o, none⟩) (show b < W0.heap.size by omega)).trans c0
    have hbb1 := hbb.below (b4.mono (by omega))
    have s1 : W0.heap.size < wc.heap.size := k4.lt
    clear hbb c0 c5 k0 hcs b4 hb0
    generalize W0.heap.size = g at *
    obtain ⟨wo, rfl⟩ : ∃ wo : World, wo = wc := ⟨_, rfl⟩
    go_upto_region 4 with fail
    go_cut [5] (fun s5 wx => s5 = .pointer (some ⟨wo.heap.size, 0, none⟩) ∧ Blk wx wo.heap.size 27 #[.int .u8 k, .int .u32 n, .int .u8 ok, .int .u32 who, .int .u32 whom, .int .u32 what, .int .u32 id, .int .u64 on, .int .u64 pr] ∧ Below wo.heap.size wo wx)
    case first =>
      have fin1 := fun nn => (((((((((((Blk.new wo 27 #[.int .u8 0, .int .u32 0, .int .u8 0, .int .u32 0, .int .u32 0, .int .u32 0, .int .u32 0, .int .u64 0, .int .u64 0]).drewN nn).set_ 0 (.int .u8 k)).set_ 1 (.int .u32 n)).set_ 2 (.int .u8 ok)).set_ 3 (.int .u32 who)).set_ 4 (.int .u32 whom)).set_ 5 (.int .u32 what)).set_ 6 (.int .u32 id)).set_ 7 (.int .u64 on)).set_ 8 (.int .u64 pr))
      simp only [List.setIfInBounds_toArray, List.set_cons_succ, List.set_cons_zero] at fin1
      have fin2 := fun nn => ((((((((((below_drewN ((Below.refl wo.heap.size wo).alloc (Nat.le_refl _) (.cells #[.int .u8 0, .int .u32 0, .int .u8 0, .int .u32 0, .int .u32 0, .int .u32 0, .int .u32 0, .int .u64 0, .int .u64 0] 27)) nn).setCell (p := ⟨wo.heap.size, 0, none⟩) (Nat.le_refl wo.heap.size) (.int .u8 k)).setCell (p := ⟨wo.heap.size, 1, none⟩) (Nat.le_refl wo.heap.size) (.int .u32 n)).setCell (p := ⟨wo.heap.size, 2, none⟩) (Nat.le_refl wo.heap.size) (.int .u8 ok)).setCell (p := ⟨wo.heap.size, 3, none⟩) (Nat.le_refl wo.heap.size) (.int .u32 who)).setCell (p := ⟨wo.heap.size, 4, none⟩) (Nat.le_refl wo.heap.size) (.int .u32 whom)).setCell (p := ⟨wo.heap.size, 5, none⟩) (Nat.le_refl wo.heap.size) (.int .u32 what)).setCell (p := ⟨wo.heap.size, 6, none⟩) (Nat.le_refl wo.heap.size) (.int .u32 id)).setCell (p := ⟨wo.heap.size, 7, none⟩) (Nat.le_refl wo.heap.size) (.int .u64 on)).setCell (p := ⟨wo.heap.size, 8, none⟩) (Nat.le_refl wo.heap.size) (.int .u64 pr))
      have c4 := k4.cell
      have e0 : wo.cell? ⟨g, 0, none⟩ = some (.int .u8 ok) := c4 0
      have e1 : wo.cell? ⟨g, 1, none⟩ = some (.int .u32 who) := c4 1
      have e2 : wo.cell? ⟨g, 2, none⟩ = some (.int .u32 whom) := c4 2
      have e3 : wo.cell? ⟨g, 3, none⟩ = some (.int .u32 what) := c4 3
      have e4 : wo.cell? ⟨g, 4, none⟩ = some (.int .u32 id) := c4 4
      have e5 : wo.cell? ⟨g, 5, none⟩ = some (.int .u64 on) := c4 5
      have e6 : wo.cell? ⟨g, 6, none⟩ = some (.int .u64 pr) := c4 6
      have hne := World.new_ne wo _ c1
      have hng := World.new_ne wo _ e0
      have hbn := fun (O : Obj) => hbb1.alloc (by omega) O
      clear c4 k4 z1
      go_region_held3 (fun w' => w'.cell? ⟨b, o, none⟩ = some (.int .u8 k) ∧ w'.cell? ⟨g, 0, none⟩ = some (.int .u8 ok) ∧ w'.cell? ⟨g, 1, none⟩ = some (.int .u32 who) ∧ w'.cell? ⟨g, 2, none⟩ = some (.int .u32 whom) ∧ w'.cell? ⟨g, 3, none⟩ = some (.int .u32 what) ∧ w'.cell? ⟨g, 4, none⟩ = some (.int .u32 id) ∧ w'.cell? ⟨g, 5, none⟩ = some (.int .u64 on) ∧ w'.cell? ⟨g, 6, none⟩ = some (.int .u64 pr)) (go_keep)
        (first
          | ((with_reducible refine (n2 _ ?_).mono ?_); (first | exact hbb1 | exact hbn _); rintro e w1 ⟨rfl, m1, rfl⟩))
      all_goals
        go_wp2_with fail
        go_meet
        case rel => exact ⟨rfl, fin1 _, fin2 _⟩
    case rest =>
    obtain ⟨rfl, k5, b6⟩ := hcut
    have s2 := z1.lt
    have z2 := (z1.below b6 s2)
    have k6 := k4.below b6 s1
    have b7 := b5.trans (b6.mono (by omega))
    obtain ⟨z, hz⟩ : ∃ z : Bool, decide (ok = 0 ∧ who = 0 ∧ whom = 0 ∧ what = 0 ∧ id = 0 ∧ on = 0 ∧ pr = 0) = z := ⟨_, rfl⟩
    have hop : ∀ W, (binOp .neq 25 (.agg #[.int .u8 ok, .int .u32 who, .int .u32 whom, .int .u32 what, .int .u32 id, .int .u64 on, .int .u64 pr]) (.agg #[.int .u8 0, .int .u32 0, .int .u32 0, .int .u32 0, .int .u32 0, .int .u64 0, .int .u64 0])).run Try.prog W = .ok (.bool (!z)) W := fun W => by
      rw [← hz]
      exact op_neq W ok who whom what id on pr 0 0 0 0 0 0 0
    have hm : mayR ⟨k, n, ok, who, whom, what, id, on, pr⟩ = (decide (1 ≤ k ∧ k ≤ 6 ∧ (k = 4 ∨ n = 0)) && (decide (k = 2) || z)) := by
      rw [← hz]
      unfold mayR
      rw [Bool.eq_iff_iff]
      simp only [decide_eq_true_iff, Bool.and_eq_true, Bool.or_eq_true]
      omega
    have HM := Lib.hid hm
    clear hm hz z1 k4 b5 b6 hbb1 c1 n2 n4 n5 n6 n7 n8 n9
    generalize wo.heap.size = g5 at *
    have c5 := k5.cell
    have c6 := k6.cell
    have c2 := z2.cell
    have fz := z2.frozen
    go_upto_region 5 with fail
    obtain ⟨wp, rfl⟩ : ∃ wp : World, wp = wc := ⟨_, rfl⟩
    go_cut [62] (fun s62 wx => wp = wx ∧ s62 = .bool (!mayR ⟨k, n, ok, who, whom, what, id, on, pr⟩))
    case first =>
      go_wp2
      all_goals
        go_meet
        case rel =>
          refine ⟨rfl, ?_⟩
          rw [HM.out]
          refine congrArg Value.bool ?_
          cases z
          · first | rfl | (rw [Bool.eq_iff_iff]; simp; omega) | (rw [eq_comm, Bool.eq_iff_iff]; simp; omega) | (simp; omega)
          · first | rfl | (rw [Bool.eq_iff_iff]; simp; omega) | (rw [eq_comm, Bool.eq_iff_iff]; simp; omega) | (simp; omega)
    case rest =>
    obtain ⟨rfl, rfl⟩ := hcut
    have z3 := z2
    have b8 := b7
    clear c6 k6
    by_cases hm : mayR ⟨k, n, ok, who, whom, what, id, on, pr⟩ = true
    · rw [hm]
      go_wp2
      have kF := (((((((((z3.set_ 0 (.int .u8 k)).set_ 1 (.int .u32 n)).set_ 2 (.int .u8 ok)).set_ 3 (.int .u32 who)).set_ 4 (.int .u32 whom)).set_ 5 (.int .u32 what)).set_ 6 (.int .u32 id)).set_ 7 (.int .u64 on)).set_ 8 (.int .u64 pr))
      have bF := (((((((((b8.setCell (p := ⟨w.heap.size, 0, none⟩) (Nat.le_refl w.heap.size) (.int .u8 k)).setCell (p := ⟨w.heap.size, 1, none⟩) (Nat.le_refl w.heap.size) (.int .u32 n)).setCell (p := ⟨w.heap.size, 2, none⟩) (Nat.le_refl w.heap.size) (.int .u8 ok)).setCell (p := ⟨w.heap.size, 3, none⟩) (Nat.le_refl w.heap.size) (.int .u32 who)).setCell (p := ⟨w.heap.size, 4, none⟩) (Nat.le_refl w.heap.size) (.int .u32 whom)).setCell (p := ⟨w.heap.size, 5, none⟩) (Nat.le_refl w.heap.size) (.int .u32 what)).setCell (p := ⟨w.heap.size, 6, none⟩) (Nat.le_refl w.heap.size) (.int .u32 id)).setCell (p := ⟨w.heap.size, 7, none⟩) (Nat.le_refl w.heap.size) (.int .u64 on)).setCell (p := ⟨w.heap.size, 8, none⟩) (Nat.le_refl w.heap.size) (.int .u64 pr))
      simp only [List.setIfInBounds_toArray, List.set_cons_succ, List.set_cons_zero] at kF
      clear z2 z3 b7 b8 c5 c2 fz k5
      generalize World.setCell _ _ _ = WF at *
      have cF := kF.cell
      exact bodyPost_ret (v := .tuple #[.agg #[.int .u8 k, .int .u32 n, .int .u8 ok, .int .u32 who, .int .u32 whom, .int .u32 what, .int .u32 id, .int .u64 on, .int .u64 pr], .int .i64 0]) (by simp [results, Try.results10, go_sem, cF]) rfl ⟨by first | rfl | (rw [if_pos hm]; rfl) | (rw [if_neg hm]; rfl), bF⟩
    · have hm' : mayR ⟨k, n, ok, who, whom, what, id, on, pr⟩ = false := by simpa using hm
      rw [hm']
      go_wp2
      have kF := (((((((((z3.set_ 0 (.int .u8 0)).set_ 1 (.int .u32 0)).set_ 2 (.int .u8 0)).set_ 3 (.int .u32 0)).set_ 4 (.int .u32 0)).set_ 5 (.int .u32 0)).set_ 6 (.int .u32 0)).set_ 7 (.int .u64 0)).set_ 8 (.int .u64 0))
      have bF := (((((((((b8.setCell (p := ⟨w.heap.size, 0, none⟩) (Nat.le_refl w.heap.size) (.int .u8 0)).setCell (p := ⟨w.heap.size, 1, none⟩) (Nat.le_refl w.heap.size) (.int .u32 0)).setCell (p := ⟨w.heap.size, 2, none⟩) (Nat.le_refl w.heap.size) (.int .u8 0)).setCell (p := ⟨w.heap.size, 3, none⟩) (Nat.le_refl w.heap.size) (.int .u32 0)).setCell (p := ⟨w.heap.size, 4, none⟩) (Nat.le_refl w.heap.size) (.int .u32 0)).setCell (p := ⟨w.heap.size, 5, none⟩) (Nat.le_refl w.heap.size) (.int .u32 0)).setCell (p := ⟨w.heap.size, 6, none⟩) (Nat.le_refl w.heap.size) (.int .u32 0)).setCell (p := ⟨w.heap.size, 7, none⟩) (Nat.le_refl w.heap.size) (.int .u64 0)).setCell (p := ⟨w.heap.size, 8, none⟩) (Nat.le_refl w.heap.size) (.int .u64 0))
      simp only [List.setIfInBounds_toArray, List.set_cons_succ, List.set_cons_zero] at kF
      clear z2 z3 b7 b8 c5 c2 fz k5
      generalize World.setCell _ _ _ = WF at *
      have cF := kF.cell
      exact bodyPost_ret (v := .tuple #[.agg #[.int .u8 0, .int .u32 0, .int .u8 0, .int .u32 0, .int .u32 0, .int .u32 0, .int .u32 0, .int .u64 0, .int .u64 0], .int .i64 230]) (by simp [results, Try.results10, go_sem, cF]) rfl ⟨by first | rfl | (rw [if_pos hm]; rfl) | (rw [if_neg hm]; rfl), bF⟩
  · have ht : ((l.length : Int) != 38) = true := by simp; omega
    have e : askedC l = (Req.zero, 230) := by unfold askedC; rw [if_neg (fun q => h38 q.1)]
    rw [e, reqV_zero]
    clear e h38
    go_enter Try.func10, Try.ntmps10
    go_wp2
    exact bodyPost_ret (v := .tuple #[.agg #[.int .u8 0, .int .u32 0, .int .u8 0, .int .u32 0, .int .u32 0, .int .u32 0, .int .u32 0, .int .u64 0, .int .u64 0], .int .i64 230]) (by simp [results, Try.results10, go_sem]) rfl ⟨rfl, (Below.refl _ _).alloc (Nat.le_refl _) _⟩
end Go.Proofs.Ytciidogbojbkiaa
