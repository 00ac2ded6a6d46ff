/- rec's document: part, number. Conditions: the bytes lie there; sizes are small. -/
import Derived.Test.YthbaoljghofkoaaRecFp
namespace Go.Proofs.Ythbaoljghofkoaa
open Go.ChangeShapes Go.WideShapes Go.ChangeAt Go.RowKit
open NumMath
set_option linter.unusedVariables false
set_option linter.unusedSimpArgs false
set_option maxRecDepth 20000

set_option maxHeartbeats 4000000 in
theorem part_any (A : Option Addr) (c : Nat) (l : List Nat) (p n B : Nat) (w : World) (h : Bytes w B A l) (hB : B ≤ w.heap.size) (hl : l.length ≤ 100000) (hp : p ≤ 100000) (hn : n ≤ 100000) :
    Calls Try.prog 36 #[.slice A l.length c, .int .i64 (p : Nat), .int .i64 (n : Nat)] w (RetBytes 5 (partL l p n) w) := by
  obtain ⟨ln, hln⟩ : ∃ ln, l.length = ln := ⟨_, rfl⟩
  obtain ⟨E, hE⟩ : ∃ E, p + n = E := ⟨_, rfl⟩
  rw [hln] at hl ⊢
  have HL := Lib.hid hln
  have HEE := Lib.hid hE
  have v1 : IntKind.i64.wrap ((p : Int) + (n : Int)) = (E : Int) := by rw [IntKind.wrap_i64]; omega
  have hsm := h.2
  have H := Lib.hid h
  have hE2 : E ≤ 200000 := by omega
  have hpE : p ≤ E := by omega
  have hP0 : RB w w none 0 0 (partL l p 0) := RB.start w
  have hnE : Hid (E - p = n) := Lib.hid (by omega)
  clear hln hE h
  go_enter Try.func36, Try.ntmps36
  go_wp2_with fail
  go_loopw [7, 8] (fun bv iv wr => ∃ (q m c : Nat) (A : Option Addr), p + m = q ∧ q ≤ E ∧ iv = .int .i64 (q : Nat) ∧ bv = .slice A m c ∧ RB w wr A m c (partL l p m)) (fun _ iv _ => E - (intOf iv).toNat)
  case atStart => exact ⟨p, 0, 0, none, Nat.add_zero _, hpE, rfl, rfl, hP0⟩
  case round =>
    clear hP0
    obtain ⟨q, m, c', A', hq, hqE, rfl, rfl, hr⟩ := hrel
    have HQ := Lib.hid hq
    have hm : m ≤ 200000 := by omega
    clear hq
    rcases Nat.lt_or_ge q E with hlt | hge
    · have e1 : decide ((q : Int) < (E : Int)) = true := by rw [decide_eq_true_iff]; omega
      have hnx : Hid (partL l p (m + 1) = partL l p m ++ [l.getD q 0]) := Lib.hid (by rw [partL_succ, HQ.out])
      by_cases hin : q < ln
      · have e2 : decide ((q : Int) < (ln : Int)) = true := by rw [decide_eq_true_iff]; omega
        have e3 : (0 : Int) ≤ (q : Int) := by omega
        have e4 : (q : Int) < (ln : Int) := by omega
        have hql : q < l.length := by rw [HL.out]; exact hin
        obtain ⟨b, o, hA, hbB, hc⟩ := (H.out.below (hr.2.1.mono hB)).1 q (by simpa using hql)
        rw [List.getElem_map] at hc
        have hx : l.getD q 0 = l[q] := by rw [List.getD_eq_getElem?_getD, List.getElem?_eq_getElem hql]; rfl
        have hxs : l[q] < 256 := hsm _ (List.getElem_mem hql)
        generalize l[q] = x at *
        unfold byteV at hc
        have HX := Lib.hid hx
        rw [hA]
        clear hx hA
        generalize partL l p m = pm at *
        go_wp2_with (at_builtin; refine wpList_append_rb rfl _ _ 25 25 rfl Try.underlying25 Try.underlying25 (hr.alloc _) rfl (wr.heap.size + 1) (some ⟨wr.heap.size, 0, none⟩) 1 1 [x] rfl (one_bytes wr hxs) rfl (by omega) ?_; intro A7 c7 w7 r7; clear hr)
        rw [← HX.out, ← hnx.out] at r7
        have R7 := Lib.hid r7
        clear r7
        go_roundw
        case rel => exact ⟨q + 1, m + 1, c7, A7, by have := HQ.out; omega, by omega, by go_num, rfl, R7.out⟩
        case measure => simp [intOf]; omega
      · have e2 : decide ((q : Int) < (ln : Int)) = false := by rw [decide_eq_false_iff_not]; omega
        have hx : l.getD q 0 = 0 := by rw [List.getD_eq_getElem?_getD, List.getElem?_eq_none (by rw [HL.out]; omega)]; rfl
        have HX := Lib.hid hx
        clear hx
        generalize partL l p m = pm at *
        have hb0 : Bytes (wr.alloc (.cells #[.int .u8 0] 5)) (wr.heap.size + 1) (some ⟨wr.heap.size, 0, none⟩) [0] := one_bytes wr (x := 0) (by decide)
        have hra := hr.alloc (.cells #[.int .u8 0] 5)
        go_wp2_with (at_builtin; refine wpList_append_rb rfl _ _ 25 25 rfl Try.underlying25 Try.underlying25 hra rfl (wr.heap.size + 1) (some ⟨wr.heap.size, 0, none⟩) 1 1 [0] rfl hb0 rfl (by omega) ?_; intro A7 c7 w7 r7; clear hr hra hb0)
        rw [← HX.out, ← hnx.out] at r7
        have R7 := Lib.hid r7
        clear r7
        go_roundw
        case rel => exact ⟨q + 1, m + 1, c7, A7, by have := HQ.out; omega, by omega, by go_num, rfl, R7.out⟩
        case measure => simp [intOf]; omega
    · obtain rfl : q = E := by omega
      have e1 : decide ((q : Int) < (q : Int)) = false := by rw [decide_eq_false_iff_not]; omega
      have F := hr.ret (Below.refl _ _)
      rw [show m = n by have := HQ.out; have := HEE.out; omega] at F
      have hmn : m = n := by have := HQ.out; have := HEE.out; omega
      have FF := Lib.hid F
      subst hmn
      clear hr F hge hqE
      go_wp2
      go_ret
      exact FF.out
set_option maxHeartbeats 2000000 in
theorem number_any (A : Option Addr) (c : Nat) (l : List Nat) (p n B : Nat) (w : World) (h : Bytes w B A l) (hB : B ≤ w.heap.size) (hl : l.length ≤ 100000) (hp : p ≤ 100000) (hn : n ≤ 8) :
    Calls Try.prog 35 #[.slice A l.length c, .int .i64 (p : Nat), .int .i64 (n : Nat)] w fun e w' => e = .returned (.int .u64 (numB l p n : Nat)) ∧ Below w.heap.size w w' := by
  have cp := part_any A c l p n B w h hB hl hp (by omega)
  have hnb : Hid (numB l p n = getL ((partL l p n).take 8)) := Lib.hid (by rw [List.take_of_length_le (by rw [partL_length]; exact hn)]; rfl)
  have hpl := partL_length l p n
  clear h
  go_enter Try.func35, Try.ntmps35
  go_wp2_with fail
  refine cp.mono ?_
  rintro e w1 hret
  obtain ⟨A1, c1, rfl, o1, b1, x1⟩ := hret.is
  have cg := refget_any A1 c1 (partL l p n) w1.heap.size w1 x1 (by rw [hpl]; omega)
  rw [← hnb.out, hpl] at cg
  rw [hpl]
  clear hpl
  generalize partL l p n = pm at *
  have B1 := Lib.hid b1
  clear cp hret o1 b1 x1
  go_wp2_with fail
  refine cg.mono ?_
  rintro e w2 ⟨rfl, hd⟩
  have F := Lib.hid (B1.out.trans ((hd.below w1.heap.size).mono B1.out.size))
  clear cg hd
  go_wp2
  go_ret
  exact ⟨rfl, F.out⟩
end Go.Proofs.Ythbaoljghofkoaa
