/- rec: may. Conditions: the record lies there. -/
import Derived.Test.YthbaoljghofkoaaRecY
namespace Go.Proofs.Ythbaoljghofkoaa
open Go.ChangeShapes Go.WideShapes Go.ChangeAt Go.RowKit
open NumMath
set_option linter.unusedVariables false
set_option linter.unusedSimpArgs false
set_option maxRecDepth 20000

def okR' (k nt np : Nat) (c a : Bool) : Bool := decide (1 ≤ k) && decide (k ≤ 8) && decide (nt ≤ 64) && decide (np ≤ 64) && (k == 8 || decide (nt + np = 0)) && c && !a
theorem okR_eq (r : RecP) : okR r = okR' r.kind r.txns.length r.pages.length (okC r) (r.txns.any badT) := rfl
theorem okR_no {k nt np : Nat} (c a : Bool) (h : k < 1 ∨ 8 < k ∨ 64 < nt ∨ 64 < np ∨ (k ≠ 8 ∧ 0 < nt + np)) : okR' k nt np c a = false := by
  unfold okR'
  rcases h with h | h | h | h | ⟨h, h2⟩
  · simp [decide_eq_false (show ¬ 1 ≤ k by omega)]
  · simp [decide_eq_false (show ¬ k ≤ 8 by omega)]
  · simp [decide_eq_false (show ¬ nt ≤ 64 by omega)]
  · simp [decide_eq_false (show ¬ np ≤ 64 by omega)]
  · have e : (k == 8) = false := by simp [h]
    rw [e, decide_eq_false (show ¬ nt + np = 0 by omega)]
    simp
theorem okR_yes {k nt np : Nat} (c a : Bool) (h1 : 1 ≤ k) (h2 : k ≤ 8) (h3 : nt ≤ 64) (h4 : np ≤ 64) (h5 : k = 8 ∨ nt + np = 0) : okR' k nt np c a = (c && !a) := by
  unfold okR'
  rw [decide_eq_true h1, decide_eq_true h2, decide_eq_true h3, decide_eq_true h4]
  have e : (k == 8 || decide (nt + np = 0)) = true := by
    rcases h5 with h | h
    · simp [h]
    · rw [decide_eq_true h, Bool.or_true]
  rw [e]
  simp
set_option maxHeartbeats 4000000 in
theorem may_any (r : RecP) (m : RecMm) (B : Nat) (w : World) (h : RecAt w B r m) (hB : B ≤ w.heap.size) :
    Calls Try.prog 21 #[.agg (recA r m)] w fun e w' => e = .returned (.bool (okR r)) ∧ Below w.heap.size w w' := by
  have kb := Blk.new w 31 (recA r m)
  have hb := below_alloc w (.cells (recA r m) 31)
  have hO := okR_eq r
  go_enter Try.func21, Try.ntmps21
  go_upto_region 1 with fail
  generalize World.alloc w _ = w1 at *
  have ld := load_rec kb
  have kc := RecBox.of kb
  have cm := mayChange_any r m w1
  have ct := fun W (hW : Below w1.heap.size w1 W) (hn : r.txns.length ≤ 100000) => txhas_any m.A3 m.c3 r.txns B W (h.txs.below ((hb.mono hB).trans (hW.mono (Nat.le_trans hB hb.size)))) (Nat.le_trans hB (Nat.le_trans hb.size hW.size)) hn
  have hlt := kb.lt
  have hk10 : Hid (∀ W, Below w1.heap.size w1 W → W.cell? ⟨w.heap.size, 10, none⟩ = some (.slice m.A3 r.txns.length m.c3)) := Lib.hid fun W hW => (hW.cell (p := ⟨w.heap.size, 10, none⟩) hlt).trans kc.k10
  obtain ⟨q0, -, -, -, -, -, -, -, -, -, q10, q11⟩ := kc
  have HB := Lib.hid hb
  have HO := Lib.hid hO
  have hFIN : ∀ W, Below w1.heap.size w1 W → Below w.heap.size w W := fun W hW => hb.trans (hW.mono hb.size)
  have HFIN := Lib.hid hFIN
  clear kb hb hO h hFIN
  obtain ⟨k, hk⟩ : ∃ k, r.kind = k := ⟨_, rfl⟩
  obtain ⟨np, hnp⟩ : ∃ np, r.pages.length = np := ⟨_, rfl⟩
  obtain ⟨nt, hnt⟩ : ∃ nt, r.txns.length = nt := ⟨_, rfl⟩
  have NO : k < 1 ∨ 8 < k ∨ 64 < nt ∨ 64 < np ∨ (k ≠ 8 ∧ 0 < nt + np) → Hid (okR r = false) := fun z => Lib.hid (by rw [HO.out, hk, hnp, hnt]; exact okR_no _ _ z)
  have YES : 1 ≤ k → k ≤ 8 → nt ≤ 64 → np ≤ 64 → (k = 8 ∨ nt + np = 0) → Hid (okR r = (okC r && !(r.txns.any badT))) := fun a b c d e => Lib.hid (by rw [HO.out, hk, hnp, hnt]; exact okR_yes _ _ a b c d e)
  rw [hk] at q0
  rw [hnp] at q11
  rw [hnt] at q10 ct hk10
  clear hk hnp hnt
  rcases Nat.lt_or_ge k 1 with z | z
  · have t1 : decide ((k : Int) < 1) = true := by rw [decide_eq_true_iff]; omega
    have HE := NO (.inl z)
    clear z YES NO ct cm ld
    go_wp2
    go_ret
    exact ⟨by rw [HE.out]; rfl, HB.out⟩
  have t1 : decide ((k : Int) < 1) = false := by rw [decide_eq_false_iff_not]; omega
  rcases Nat.lt_or_ge 8 k with z2 | z2
  · have t2 : decide ((8 : Int) < (k : Int)) = true := by rw [decide_eq_true_iff]; omega
    have HE := NO (.inr (.inl z2))
    clear z z2 YES NO ct cm ld
    go_wp2
    go_ret
    exact ⟨by rw [HE.out]; rfl, HB.out⟩
  have t2 : decide ((8 : Int) < (k : Int)) = false := by rw [decide_eq_false_iff_not]; omega
  rcases Nat.lt_or_ge 64 nt with z3 | z3
  · have t3 : decide ((64 : Int) < (nt : Int)) = true := by rw [decide_eq_true_iff]; omega
    have HE := NO (.inr (.inr (.inl z3)))
    clear z z2 z3 YES NO ct cm ld
    go_wp2
    go_ret
    exact ⟨by rw [HE.out]; rfl, HB.out⟩
  have t3 : decide ((64 : Int) < (nt : Int)) = false := by rw [decide_eq_false_iff_not]; omega
  rcases Nat.lt_or_ge 64 np with z4 | z4
  · have t4 : decide ((64 : Int) < (np : Int)) = true := by rw [decide_eq_true_iff]; omega
    have HE := NO (.inr (.inr (.inr (.inl z4))))
    clear z z2 z3 z4 YES NO ct cm ld
    go_wp2
    go_ret
    exact ⟨by rw [HE.out]; rfl, HB.out⟩
  have t4 : decide ((64 : Int) < (np : Int)) = false := by rw [decide_eq_false_iff_not]; omega
  have v1 : IntKind.i64.wrap ((nt : Int) + (np : Int)) = (nt : Int) + (np : Int) := by rw [IntKind.wrap_i64]; omega
  by_cases z5 : k ≠ 8 ∧ 0 < nt + np
  · have t5 : ((k : Int) != 8) = true := by rw [bne_iff_ne]; omega
    have t6 : decide ((0 : Int) < (nt : Int) + (np : Int)) = true := by rw [decide_eq_true_iff]; omega
    have HE := NO (.inr (.inr (.inr (.inr z5))))
    clear z z2 z3 z4 z5 YES NO ct cm ld
    go_wp2
    go_ret
    exact ⟨by rw [HE.out]; rfl, HB.out⟩
  have hor : k = 8 ∨ (k ≠ 8 ∧ nt = 0 ∧ np = 0) := by omega
  have HE := YES z z2 z3 z4 (by omega)
  have ct2 := fun W hW => ct W hW (by omega)
  clear z z2 z3 z4 z5 YES NO ct
  generalize okC r = cb at *
  generalize r.txns.any badT = ab at *
  have T5 : ((k : Int) != 8) = false ∨ (((k : Int) != 8) = true ∧ nt = 0 ∧ np = 0) := by
    rcases hor with z | ⟨z, z1, z2⟩
    · left; rw [bne_eq_false_iff_eq]; omega
    · right; exact ⟨by rw [bne_iff_ne]; omega, z1, z2⟩
  clear hor
  rcases T5 with t5 | ⟨t5, rfl, rfl⟩
  all_goals
    go_wp2_with (refine wpList_load_run rfl 31 (.tmp 1) _ _ rfl rfl ld ?_; clear ld)
    refine cm.mono ?_
    rintro e w2 ⟨rfl, b2⟩
    have p10 := hk10.out w2 b2
    have ct3 := ct2 w2 b2
    have B2 := Lib.hid (HFIN.out _ b2)
    have hB2 := Lib.hid b2
    clear cm q0 q10 q11 b2 ct2
    cases cb
    · clear ct3
      go_wp2
      go_ret
      exact ⟨by rw [HE.out]; rfl, B2.out⟩
    · go_wp2_with fail
      refine ct3.mono ?_
      rintro e w3 ⟨rfl, b3⟩
      have B3 := Lib.hid (HFIN.out _ (hB2.out.trans (b3.mono hB2.out.size)))
      clear ct3 b3
      go_wp2
      go_ret
      exact ⟨by rw [HE.out]; rfl, B3.out⟩
end Go.Proofs.Ythbaoljghofkoaa
