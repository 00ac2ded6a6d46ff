/- page: the document's Clear. Conditions: its page lies there. -/
import Derived.Test.YtkknfccfgmflmaaPgRefX
import Derived.Deep.QuietTactic
namespace Go.Proofs.Ytkknfccfgmflmaa
open Go.ChangeShapes Go.WideShapes Go.ChangeAt Go.RowKit
open NumMath
set_option linter.unusedVariables false
set_option linter.unusedSimpArgs false
set_option maxRecDepth 20000

theorem upd_z_next (f : Nat → Nat) (x j : Nat) : up1 (upd f x (List.replicate j 0)) (x + j) 0 = upd f x (List.replicate (j + 1) 0) := by
  funext i
  unfold up1
  rw [upd_zero, upd_zero]
  by_cases h : i = x + j
  · rw [if_pos h, if_pos (by omega)]
  · rw [if_neg h]
    by_cases h2 : x ≤ i ∧ i < x + j
    · rw [if_pos h2, if_pos (by omega)]
    · rw [if_neg h2, if_neg (by omega)]
theorem clearR_no {r : RP} {s : Int} (h : (getR r s).length = 0) : clearR r s = r := by
  unfold clearR
  rw [if_neg]
  rintro ⟨h1, h2, h3⟩
  unfold getR at h
  rw [if_pos ⟨h1, h2⟩, cut_length] at h
  omega
theorem getR_pos {r : RP} {s : Int} (h : 0 < (getR r s).length) : ∃ k : Nat, s = k ∧ k < 40 ∧ 0 < r.S k ∧ clearR r s = clearRR r k := by
  unfold getR at h
  by_cases h0 : 0 ≤ s ∧ s < 40
  · rw [if_pos h0, cut_length] at h
    obtain ⟨k, rfl⟩ := Int.eq_ofNat_of_zero_le h0.1
    rw [Int.toNat_natCast] at h
    refine ⟨k, rfl, by omega, h, ?_⟩
    unfold clearR
    rw [Int.toNat_natCast, if_pos ⟨h0.1, h0.2, h⟩]
  · rw [if_neg h0] at h
    exact absurd h (by simp)
theorem clearRR_fit {r : RP} (h : RFit r) (k : Nat) : RFit (clearRR r k) := by
  refine ⟨h.l64, h.n32, fun s hs => ?_, upd_small h.small _ (zeros_small _)⟩
  show up1 r.O k 0 s + up1 r.S k 0 s ≤ 448 ∧ up1 r.S k 0 s ≤ 64
  unfold up1
  by_cases e : s = k
  · rw [if_pos e, if_pos e]; omega
  · rw [if_neg e, if_neg e]; exact h.fit s hs
section
variable {w : World} {gr : Nat} {r : RP}
set_option maxHeartbeats 4000000 in
theorem rclear_any (h : RAt w gr r) (s : Int) :
    Calls Try.prog 41 #[.pointer (some ⟨gr, 0, none⟩), .int .i64 s] w fun e w' => e = .returned (.bool (decide (0 < (getR r s).length))) ∧ RPost gr (clearR r s) w w' := by
  have cg := rget_any h s
  by_cases hp : 0 < (getR r s).length
  · have hd : decide (0 < (getR r s).length) = true := decide_eq_true hp
    obtain ⟨k, rfl, hk, hy, hcl⟩ := getR_pos hp
    rw [hcl]
    unfold GetPost at cg
    rw [hd] at cg ⊢
    generalize getR r (k : Int) = l at *
    have hfit := h.fit k hk
    have HFIT := Lib.hid (clearRR_fit h.toRFit k)
    clear hcl hd hp
    go_enter Try.func41, Try.ntmps41
    go_wp2_with fail
    refine cg.mono ?_
    rintro e w1 ⟨A, c, rfl, o1, b1, s1⟩
    have h1 := h.below b1
    have hB0 := h1.blk
    have hlt := h.lt
    clear cg o1 s1 h1 h
    have cO := rpc_O hB0 hk
    have e2 : (0 : Int) ≤ (k : Int) := by omega
    have e3 : (k : Int) < 40 := by omega
    have hOK : ∀ W X, Blk W gr 70 (rpA { r with B := X }) → W.cell? ⟨gr, 2 + k, none⟩ = some (.int .i64 (r.O k : Nat)) ∧ W.cell? ⟨gr, 42 + k, none⟩ = some (.int .i64 (r.S k : Nat)) := fun W X hW => ⟨rpc_O hW hk, rpc_S hW hk⟩
    have HC : Hid (clearRR r k = { r with O := up1 r.O k 0, S := up1 r.S k 0, B := upd r.B (r.O k) (List.replicate (r.S k) 0) }) := Lib.hid rfl
    generalize r.O k = x at *
    generalize r.S k = y at *
    go_wp2_with fail
    go_loopw [7] (fun i wr => ∃ q : Nat, x ≤ q ∧ q ≤ x + y ∧ i = .int .i64 q ∧ Blk wr gr 70 (rpA { r with B := upd r.B x (List.replicate (q - x) 0) }) ∧ Only (fun b => b = gr) w1 wr) (fun i _ => x + y - (intOf i).toNat)
    case atStart => exact ⟨x, Nat.le_refl _, by omega, rfl, by rw [Nat.sub_self, List.replicate_zero, upd_nil]; exact hB0, Only.refl _ _⟩
    case round =>
      obtain ⟨q, hq1, hq2, rfl, hB, ho⟩ := hrel
      clear hB0 cO
      obtain ⟨cO, cS⟩ := hOK wr _ hB
      have wr1 : IntKind.i64.wrap ((x : Int) + (y : Int)) = (x : Int) + (y : Int) := by rw [IntKind.wrap_i64]; omega
      rcases Nat.lt_or_ge q (x + y) with hlt2 | hge
      · have t1 : decide ((q : Int) < (x : Int) + (y : Int)) = true := by rw [decide_eq_true_iff]; omega
        go_wp2_with fail
        go_quiet (fail)
        generalize hwq : World.drewN _ _ = w2
        have hB2 : Blk w2 gr 70 (rpA { r with B := upd r.B x (List.replicate (q - x) 0) }) := by rw [← hwq]; exact hB.drewN _
        have ho2 : Only (fun b => b = gr) w1 w2 := by rw [← hwq]; exact ho.drewN _
        clear hwq cO cS hB ho hOK
        have i1 : (0 : Int) ≤ (q : Int) := by omega
        have i2 : (q : Int) < 448 := by omega
        have fz := hB2.frozen (82 + q)
        have hcl := rpc_B hB2 (show q < 448 by omega)
        have hB3 := rpb_B hB2 q 0 (by omega)
        have hz := upd_z_next r.B x (q - x)
        rw [show x + (q - x) = q by omega] at hz
        simp only [hz] at hB3
        have HB3 := Lib.hid (And.intro hB3 (ho2.setCell (p := ⟨gr, 82 + q, none⟩) (.inl rfl) (.int .u8 ((0 : Nat) : Int))))
        clear hB2 ho2 hB3 hz
        go_wp2
        go_roundw
        case rel => exact ⟨q + 1, by omega, by omega, by go_num, by rw [show q + 1 - x = q - x + 1 by omega]; exact HB3.out.1, HB3.out.2⟩
        case measure => simp [intOf]; omega
      · rw [show q - x = y by omega] at hB
        have t2 : decide ((q : Int) < (x : Int) + (y : Int)) = false := by rw [decide_eq_false_iff_not]; omega
        clear hge hq1 hq2
        go_wp2_with fail
        go_quiet (fail)
        generalize hwq : World.drewN _ _ = w2
        have hB2 : Blk w2 gr 70 (rpA { r with B := upd r.B x (List.replicate y 0) }) := by rw [← hwq]; exact hB.drewN _
        have ho2 : Only (fun b => b = gr) w1 w2 := by rw [← hwq]; exact ho.drewN _
        clear hwq cO cS hB ho hOK
        have f2 := hB2.frozen (2 + k)
        have c2 := rpc_O hB2 hk
        have hB3 : Blk (w2.setCell ⟨gr, 2 + k, none⟩ (.int .i64 0)) gr 70 (rpA { r with B := upd r.B x (List.replicate y 0), O := up1 r.O k 0 }) := rpb_O hB2 k 0 hk
        have ho3 := ho2.setCell (p := ⟨gr, 2 + k, none⟩) (.inl rfl) (.int .i64 0)
        have f3 := hB3.frozen (42 + k)
        have c3 := rpc_S hB3 hk
        have hB4 : Blk ((w2.setCell ⟨gr, 2 + k, none⟩ (.int .i64 0)).setCell ⟨gr, 42 + k, none⟩ (.int .i64 0)) gr 70 (rpA { r with B := upd r.B x (List.replicate y 0), O := up1 r.O k 0, S := up1 r.S k 0 }) := rpb_S hB3 k 0 hk
        have ho4 := ho3.setCell (p := ⟨gr, 42 + k, none⟩) (.inl rfl) (.int .i64 0)
        have FIN := Lib.hid (And.intro hB4 ((Only.of_below b1 (fun b => b = gr)).trans ho4 fun b z => .inl z))
        clear hB2 ho2 hB3 ho3 hB4 ho4 b1
        go_wp2
        go_ret
        refine ⟨rfl, ⟨HFIT.out, ?_⟩, FIN.out.2⟩
        rw [HC.out]
        exact FIN.out.1
  · have hl : (getR r s).length = 0 := by omega
    have hd : decide (0 < (getR r s).length) = false := decide_eq_false hp
    rw [clearR_no hl]
    unfold GetPost at cg
    rw [hd] at cg ⊢
    rw [hl] at cg
    clear hp hl hd
    go_enter Try.func41, Try.ntmps41
    go_wp2_with fail
    refine cg.mono ?_
    rintro e w1 ⟨A, c, rfl, o1, b1, s1⟩
    have FIN := Lib.hid (RPost.from b1 (RPost.refl (h.below b1)))
    clear cg o1 b1 s1 h
    go_wp2
    go_ret
    exact ⟨rfl, FIN.out⟩
end
end Go.Proofs.Ytkknfccfgmflmaa
