/- rec: may. Conditions: the record lies there. -/
import Derived.Test.YthbaoljghofkoaaRecO
namespace Go.Proofs.Ythbaoljghofkoaa
open Go.ChangeShapes Go.WideShapes Go.ChangeAt Go.RowKit
open NumMath
set_option linter.unusedVariables false
set_option linter.unusedSimpArgs false
set_option maxRecDepth 20000

def txV (x : TxP) : Array Value := #[.int .u32 (x.txn : Nat), .int .u64 (x.last : Nat), .int .u64 (x.undo : Nat), .int .u8 (x.state : Nat)]
theorem wrong_any (x : TxP) (w : World) :
    Calls Try.prog 38 #[.agg (txV x)] w fun e w' => e = .returned (.bool (badT x)) ∧ Below w.heap.size w w' := by
  have kb := Blk.new w 64 (txV x)
  have HB := Lib.hid (below_alloc w (.cells (txV x) 64))
  have hE : badT x = (decide (x.state < 1) || decide (3 < x.state)) := rfl
  go_enter Try.func38, Try.ntmps38
  go_upto_region 1 with fail
  generalize World.alloc w _ = w1 at *
  have q3 : w1.cell? ⟨w.heap.size, 3, none⟩ = some (.int .u8 (x.state : Nat)) := kb.cell 3
  clear kb
  rcases Nat.lt_or_ge x.state 1 with z | z
  · have t1 : decide ((x.state : Int) < 1) = true := by rw [decide_eq_true_iff]; omega
    have HE : Hid (badT x = true) := Lib.hid (by rw [hE, decide_eq_true z]; rfl)
    clear z hE
    go_wp2
    go_ret
    exact ⟨by rw [HE.out]; rfl, HB.out⟩
  · have t1 : decide ((x.state : Int) < 1) = false := by rw [decide_eq_false_iff_not]; omega
    rcases Nat.lt_or_ge 3 x.state with z2 | z2
    · have t2 : decide ((3 : Int) < (x.state : Int)) = true := by rw [decide_eq_true_iff]; omega
      have HE : Hid (badT x = true) := Lib.hid (by rw [hE, decide_eq_true z2, Bool.or_true])
      clear z z2 hE
      go_wp2
      go_ret
      exact ⟨by rw [HE.out]; rfl, HB.out⟩
    · have t2 : decide ((3 : Int) < (x.state : Int)) = false := by rw [decide_eq_false_iff_not]; omega
      have HE : Hid (badT x = false) := Lib.hid (by rw [hE, decide_eq_false (by omega), decide_eq_false (by omega)]; rfl)
      clear z z2 hE
      go_wp2
      go_ret
      exact ⟨by rw [HE.out]; rfl, HB.out⟩
theorem any_of (l : List TxP) (q : Nat) (hq : q < l.length) (h : badT l[q] = true) : l.any badT = true := by
  rw [List.any_eq_true]
  exact ⟨l[q], List.getElem_mem hq, h⟩
theorem any_none (l : List TxP) (h : ∀ j (hj : j < l.length), badT l[j] = false) : l.any badT = false := by
  rw [List.any_eq_false]
  intro x hx
  obtain ⟨j, hj, rfl⟩ := List.mem_iff_getElem.1 hx
  simp [h j hj]
set_option maxHeartbeats 2000000 in
theorem txidx_any (A : Option Addr) (c : Nat) (l : List TxP) (B : Nat) (w : World) (h : TxsAt w B A l) (hB : B ≤ w.heap.size) (hn : l.length ≤ 100000) :
    Calls Try.prog 51 #[.slice A l.length c, .func (.func 38) #[] #[]] w fun e w' => (∃ i : Int, e = .returned (.int .i64 i) ∧ decide (0 ≤ i) = l.any badT) ∧ Below w.heap.size w w' := by
  go_enter Try.func51, Try.ntmps51
  go_wp2_with fail
  go_loopw [8, 5] (fun i j wr => ∃ q : Nat, q ≤ l.length ∧ i = .int .i64 q ∧ Hid (∀ j (hj : j < l.length), j < q → badT l[j] = false) ∧ Below w.heap.size w wr) (fun i _ _ => l.length - (intOf i).toNat)
  case atStart => exact ⟨0, Nat.zero_le _, rfl, fun j hj h => absurd h (by omega), Below.refl _ _⟩
  case round =>
    obtain ⟨q, hq, rfl, H, hb⟩ := hrel
    rcases Nat.lt_or_ge q l.length with hlt | hge
    · have e1 : decide ((q : Int) < (l.length : Int)) = true := by rw [decide_eq_true_iff]; omega
      have e2 : (0 : Int) ≤ (q : Int) := by omega
      have e3 : (q : Int) < (l.length : Int) := by omega
      obtain ⟨b, o, rfl, hb1, x0, x1, x2, x3⟩ := (h.below (hb.mono hB)) q hlt
      have hsz := hb.size
      have hm := fun W => wrong_any l[q] W
      have HY := Lib.hid (any_of l q hlt)
      have HN : Hid (badT l[q] = false → ∀ j (hj : j < l.length), j < q + 1 → badT l[j] = false) := Lib.hid fun hmm j hj hjq => by
        rcases Nat.lt_or_ge j q with z | z
        · exact H.out j hj z
        · obtain rfl : j = q := by omega
          exact hmm
      clear h H
      generalize l[q] = x at *
      have ld : (Instr.loadAt 64 (.pointer (some ⟨b, o + q * 4, none⟩))).run Try.prog wr = .ok (.agg (txV x)) wr :=
        run_load_cells 64 (txV x).toList _ (fun j v hv => by
          match j with
          | 0 => rw [Nat.add_zero]; exact x0.trans hv
          | 1 => exact x1.trans hv
          | 2 => exact x2.trans hv
          | 3 => exact x3.trans hv
          | j + 4 => cases hv) Try.underlying64 rfl (by kernel_rfl)
      clear x0 x1 x2 x3
      cases hmm : badT x with
      | false =>
        have HN2 := Lib.hid (HN.out hmm)
        have hm2 := hm wr
        rw [hmm] at hm2
        clear HY HN hmm hm
        go_wp2_with (refine wpList_load_run rfl 64 (.tmp 14) _ _ rfl rfl ld ?_; clear ld)
        refine hm2.mono ?_
        rintro e w2 ⟨rfl, b2⟩
        have HB := Lib.hid (hb.trans (b2.mono hsz))
        clear hm2 b2 hb
        go_wp2
        go_roundw
        case rel => exact ⟨q + 1, by omega, by go_num, HN2.out, HB.out⟩
        case measure => simp [intOf]; omega
      | true =>
        have HY2 := Lib.hid (HY.out hmm)
        have hm2 := hm wr
        rw [hmm] at hm2
        clear HY HN hmm hm
        go_wp2_with (refine wpList_load_run rfl 64 (.tmp 14) _ _ rfl rfl ld ?_; clear ld)
        refine hm2.mono ?_
        rintro e w2 ⟨rfl, b2⟩
        have HB := Lib.hid (hb.trans (b2.mono hsz))
        clear hm2 b2 hb
        go_wp2
        go_ret
        exact ⟨⟨_, rfl, by rw [HY2.out, decide_eq_true e2]⟩, HB.out⟩
    · obtain rfl : q = l.length := by omega
      have e1 : decide ((l.length : Int) < (l.length : Int)) = false := by rw [decide_eq_false_iff_not]; omega
      have HE := Lib.hid (any_none l fun j hj => H.out j hj hj)
      clear h H
      go_wp2
      go_ret
      exact ⟨⟨_, rfl, by rw [HE.out]; rfl⟩, hb⟩
theorem txhas_any (A : Option Addr) (c : Nat) (l : List TxP) (B : Nat) (w : World) (h : TxsAt w B A l) (hB : B ≤ w.heap.size) (hn : l.length ≤ 100000) :
    Calls Try.prog 40 #[.slice A l.length c, .func (.func 38) #[] #[]] w fun e w' => e = .returned (.bool (l.any badT)) ∧ Below w.heap.size w w' := by
  have ci := txidx_any A c l B w h hB hn
  clear h
  go_enter Try.func40, Try.ntmps40
  go_wp2_with fail
  refine ci.mono ?_
  rintro e w2 ⟨⟨i, rfl, hi⟩, b2⟩
  have HI := Lib.hid hi
  clear ci hi
  go_wp2
  go_ret
  exact ⟨by rw [← HI.out]; rfl, b2⟩
end Go.Proofs.Ythbaoljghofkoaa
