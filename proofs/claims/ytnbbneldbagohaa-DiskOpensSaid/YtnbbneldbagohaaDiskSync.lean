/- disk: Sync. Conditions: the device lies there. -/
import Derived.Test.YtnbbneldbagohaaDiskSet
namespace Go.Proofs.Ytnbbneldbagohaa
open Go.ChangeShapes Go.WideShapes Go.ChangeAt Go.RowKit
set_option linter.unusedVariables false
set_option linter.unusedSimpArgs false
set_option maxRecDepth 20000

def syncS (_ : Nat) (s : Sect) : Sect := ⟨s.newest, []⟩
section
variable {D : DevP} {w : World} {F : Nat → Prop} {gp : Nat} {s : Nat → Value} {lv : Value} {X : Nat → List Value}
set_option maxHeartbeats 400000 in
theorem sync_some (h : DevAt D w F gp s lv X) (hF : ∀ b, F b → b < w.heap.size) {N : Nat} (hG : D.good N) (hN : N ≤ 100000) {n : Nat} (hn : n < 2) :
    Calls Try.prog 26 #[.pointer (some ⟨gp, 0, none⟩), .int .u8 n] w fun e w' => e = .returned (.tuple #[]) ∧ DevPost (D.sync n) F (.pointer (some ⟨gp, 0, none⟩)) w w' := by
  have hf := file_any h n (by omega)
  rw [if_pos hn] at hf
  have hgo := goes_any h
  have hlt : decide ((2 : Int) ≤ (n : Int)) = false := by rw [decide_eq_false_iff_not]; omega
  obtain ⟨A, c, es, -, -⟩ := own_form (h.file n hn).1
  rw [es] at hf
  have hD : D.sync n = if D.goes.1 then { D.goes.2 with f := mapF D n syncS } else D.goes.2 := if_pos hn
  rw [hD]
  cases hg : D.goes.1 with
  | false =>
    rw [hg] at hgo
    go_enter Try.func26, Try.ntmps26
    go_wp2_with fail
    refine hf.mono ?_
    rintro e w1 ⟨rfl, rfl⟩
    go_wp2_with fail
    refine hgo.mono ?_
    rintro e w1 ⟨rfl, h1, h2⟩
    have hfin : DevPost D.goes.2 F (.pointer (some ⟨gp, 0, none⟩)) w w1 := ⟨⟨gp, s, lv, X, rfl, ⟨h1.toFilesAt.mono fun b q => .inl q, h1.blk, .inl h1.inF, h1.left.mono fun b q => .inl q⟩⟩, h2.mono fun b q => .inl q.1⟩
    clear h1 h2
    go_wp2
    refine bodyPost_ret (results_none rfl _ _ _) rfl ?_
    exact ⟨rfl, hfin⟩
  | true =>
    rw [hg] at hgo
    have hgf := D.goes_f
    generalize hD' : D.goes.2 = D' at *
    go_enter Try.func26, Try.ntmps26
    go_wp2_with fail
    refine hf.mono ?_
    rintro e w1 ⟨rfl, rfl⟩
    go_wp2_with fail
    refine hgo.mono ?_
    rintro e w1 ⟨rfl, h1, h2⟩
    obtain ⟨f0, left0, hal0⟩ := D'
    simp only at hgf
    subst hgf
    clear hD' hgo hf h
    obtain ⟨m, hm⟩ : ∃ m, (D.f n).length = m := ⟨_, rfl⟩
    have hm2 := (hG n hn).1
    rw [hm] at es hm2
    rw [hm]
    have HM := Lib.hid hm
    clear hm
    go_wp2_with fail
    go_loopw [19, 5] (fun i j wr => ∃ k : Nat, k ≤ m ∧ i = .int .i64 k ∧ (∃ Xk, DevAt ⟨stepF D.f n syncS k, left0, hal0⟩ wr F gp s lv Xk) ∧ Only (Hard F w) w wr) (fun i _ _ => m - (intOf i).toNat)
    case atStart => exact ⟨0, Nat.zero_le _, rfl, ⟨X, by rw [stepF_zero]; exact h1⟩, h2⟩
    case round =>
      obtain ⟨k, hk, rfl, ⟨Xk, hd⟩, hO⟩ := hrel
      rcases Nat.lt_or_ge k m with hlt | hge
      · have e1 : decide ((k : Int) < (m : Int)) = true := by rw [decide_eq_true_iff]; omega
        have e2 : (0 : Int) ≤ (k : Int) := by omega
        have e3 : (k : Int) < (m : Int) := by omega
        have hkl : k < (stepF D.f n syncS k n).length := by rw [stepF_length, HM.out]; exact hlt
        have hkl0 : k < (D.f n).length := by rw [HM.out]; exact hlt
        have hAt := stepF_at D.f n syncS hkl0 hkl
        have hw : (stepF D.f n syncS k n)[k].waits.length ≤ 100000 := by rw [hAt]; have := (hG.at_ hn hkl0).2.1; omega
        obtain ⟨g, c', lw, wv, es', qc0, qc1, -⟩ := sector_at hd hn hkl
        have hnw := newest_any hd hn hkl hw es'
        rw [show (DevP.f ⟨stepF D.f n syncS k, left0, hal0⟩ n)[k]'hkl = (D.f n)[k] from hAt] at hnw
        rw [Nat.mul_comm 2 k] at hnw
        have es2 := es'
        rw [es] at es'
        injection es' with q1 q2 q3
        subst q1
        subst q3
        clear q2
        have hrow := (hd.file n hn).1
        rw [es2] at hrow
        have qf0 : wr.frozen? ⟨g, k * 2, none⟩ = false := hrow.frozenAt _
        have qf1 : wr.frozen? ⟨g, k * 2 + 1, none⟩ = false := hrow.frozenAt _
        have post := fun (u : Value) (hu : Txt wr F u (D.f n)[k].newest) => DevAt.set2 hd hn hkl es2 hu (fun b q => q)
        have posto := fun (u : Value) => hd.set2_only (n := n) (k := k) hn es2 u
        simp only [Nat.mul_comm 2 k] at qc0 qc1 post posto
        have hnx := stepF_next D.f n syncS hkl0
        have POST := Lib.hid post
        have POSTO := Lib.hid posto
        have HNX := Lib.hid hnx
        clear post posto hnx hd es2 hrow hAt
        go_wp2_with fail
        refine hnw.mono ?_
        rintro e w2 ⟨⟨u, rfl, ht⟩, rfl⟩
        obtain ⟨A2, c2, rfl, -⟩ := ht.bytes
        go_wp2_with fail
        go_roundw
        case rel => exact ⟨k + 1, by omega, by go_num, ⟨_, by rw [← HNX.out]; exact POST.out _ ht⟩, hO.trans (POSTO.out _) fun b q => hard_back hF hO q⟩
        case measure => simp [intOf]; omega
      · obtain rfl : k = m := by omega
        have hfin : DevPost { (⟨D.f, left0, hal0⟩ : DevP) with f := mapF D n syncS } F (.pointer (some ⟨gp, 0, none⟩)) w wr := by
          rw [stepF_all D.f n syncS HM.out.symm] at hd
          exact ⟨⟨gp, s, lv, Xk, rfl, ⟨hd.toFilesAt.mono fun b q => .inl q, hd.blk, .inl hd.inF, hd.left.mono fun b q => .inl q⟩⟩, hO.mono fun b q => .inl q.1⟩
        have HFIN := Lib.hid hfin
        clear hfin hd hO h1 h2
        go_wp2
        go_end0
        exact ⟨rfl, HFIN.out⟩
theorem sync_none (h : DevAt D w F gp s lv X) (n : Nat) (hn : n < 256) (hn2 : 2 ≤ n) :
    Calls Try.prog 26 #[.pointer (some ⟨gp, 0, none⟩), .int .u8 n] w fun e w' => e = .returned (.tuple #[]) ∧ w = w' := by
  have hf := file_any h n hn
  rw [if_neg (by omega)] at hf
  have hlt : decide ((2 : Int) ≤ (n : Int)) = true := by rw [decide_eq_true_iff]; omega
  clear h
  go_enter Try.func26, Try.ntmps26
  go_wp2_with fail
  refine hf.mono ?_
  rintro e w1 ⟨rfl, rfl⟩
  go_wp2
  refine bodyPost_ret (results_none rfl _ _ _) rfl ?_
  exact ⟨rfl, rfl⟩
end
theorem sync_any {D : DevP} {w : World} {F : Nat → Prop} {p : Value} (h : IsDev D w F p) (hF : ∀ b, F b → b < w.heap.size) {N : Nat} (hG : D.good N) (hN : N ≤ 100000) (n : Nat) (hn : n < 256) :
    Calls Try.prog 26 #[p, .int .u8 n] w fun e w' => e = .returned (.tuple #[]) ∧ DevPost (D.sync n) F p w w' := by
  have hp := h
  obtain ⟨gp, s, lv, X, rfl, h'⟩ := hp
  by_cases hh : n < 2
  · exact sync_some h' hF hG hN hh
  · have e1 : D.sync n = D := if_neg hh
    rw [e1]
    refine (sync_none h' n hn (by omega)).mono ?_
    rintro e w' ⟨rfl, rfl⟩
    exact ⟨rfl, DevPost.refl h⟩
end Go.Proofs.Ytnbbneldbagohaa
