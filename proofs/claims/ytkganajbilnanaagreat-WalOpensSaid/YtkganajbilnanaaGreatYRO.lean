/- The document's log: on, header. Conditions: the device lies there; so do the bytes. -/
import Derived.Test.YtkganajbilnanaaGreatYRF
set_option linter.unusedVariables false
set_option linter.unusedSimpArgs false
namespace Go.Proofs.YtkganajbilnanaaGreat
open Go.ChangeShapes Go.WideShapes Go.ChangeAt Go.RowKit
open NumMath
set_option maxRecDepth 20000
def ROnPost (D : DevP) (pd : Value) (w : World) (e : Ending) (w' : World) : Prop :=
  Below w.heap.size w w' ∧ ((D.size 0 < 18 ∧ e = .returned (.tuple #[.pointer (some ⟨w.heap.size, 0, none⟩), .bool false])) ∨
    (18 ≤ D.size 0 ∧ e = .returned (.tuple #[.pointer (some ⟨w.heap.size, 0, none⟩), .bool true]) ∧ RLogAt (logZ ((D.size 0 - 2) / 2)) w' (fun b => b = w.heap.size) w.heap.size pd (.slice none 0 0) (.slice none 0 0)))
theorem ron_any {D : DevP} {w : World} {F : Nat → Prop} {pd : Value} (h : IsRDev D w F pd) (hs : D.size 0 ≤ 4096) :
    Calls Tryz.prog 31 #[pd] w (ROnPost D pd w) := by
  have cs := rsize_any h 0 (by omega)
  obtain ⟨gp, s, lv, X, rfl, -⟩ := h
  obtain ⟨n, hn⟩ : ∃ n, D.size 0 = n := ⟨_, rfl⟩
  rw [hn] at cs
  unfold ROnPost
  rw [hn] at hs ⊢
  clear hn
  rcases Nat.lt_or_ge n 18 with z | z
  · obtain ⟨q, hq⟩ : ∃ q : Int, ((n : Int) - 2).tdiv 2 = q := ⟨_, rfl⟩
    have v1 : IntKind.i64.wrap ((n : Int) - 2) = (n : Int) - 2 := by rw [IntKind.wrap_i64]; omega
    have hq8 : q < 8 := by rw [← hq]; have := Int.tdiv_le_tdiv (show (0:Int) < 2 by omega) (show (n : Int) - 2 ≤ 15 by omega); have e : (15 : Int).tdiv 2 = 7 := by decide
                           omega
    have hqm : -2 ≤ q := by rw [← hq]; have := Int.tdiv_le_tdiv (show (0:Int) < 2 by omega) (show (-2 : Int) ≤ (n : Int) - 2 by omega); have e : (-2 : Int).tdiv 2 = -1 := by decide
                            omega
    have v2 : wrap64 q = q := by unfold wrap64; omega
    have v3 : IntKind.i64.wrap q = q := by rw [IntKind.wrap_i64]; omega
    have t1 : decide (8 ≤ q) = false := by rw [decide_eq_false_iff_not]; omega
    have u1 : ¬ (8 ≤ q) := by omega
    clear hq8 hqm
    have HB := Lib.hid (below_alloc w (.cells #[.pointer (some ⟨gp, 0, none⟩), .int .i64 q, .int .i64 0, .int .u64 0, .slice none 0 0, .slice none 0 0, .int .i64 0, .int .u64 0, .int .u64 0, .int .i64 0] 98))
    go_enter Tryz.func31, Tryz.ntmps31
    go_wp2_with fail
    refine cs.mono ?_
    rintro e w2 ⟨rfl, rfl⟩
    clear cs
    go_wp2
    go_ret2
    exact ⟨HB.out, .inl ⟨z, rfl⟩⟩
  · obtain ⟨q, hq⟩ : ∃ q : Nat, (n - 2) / 2 = q := ⟨_, rfl⟩
    have v1 : IntKind.i64.wrap ((n : Int) - 2) = ((n - 2 : Nat) : Int) := by rw [IntKind.wrap_i64]; omega
    have v2 : ((n - 2 : Nat) : Int).tdiv 2 = (q : Int) := by rw [← hq]; exact (Int.ofNat_tdiv (n - 2) 2).symm
    have v2' : ((n - 2 : Nat) : Int) / 2 = (q : Int) := by omega
    have v3 : wrap64 (q : Int) = (q : Int) := by unfold wrap64; omega
    have v4 : IntKind.i64.wrap (q : Int) = (q : Int) := by rw [IntKind.wrap_i64]; omega
    have t1 : decide ((8 : Int) ≤ (q : Int)) = true := by rw [decide_eq_true_iff]; omega
    have u1 : 8 ≤ q := by omega
    have kb := Blk.new w 98 #[.pointer (some ⟨gp, 0, none⟩), .int .i64 q, .int .i64 0, .int .u64 0, .slice none 0 0, .slice none 0 0, .int .i64 0, .int .u64 0, .int .u64 0, .int .i64 0]
    have HB := Lib.hid (And.intro (below_alloc w (.cells #[.pointer (some ⟨gp, 0, none⟩), .int .i64 q, .int .i64 0, .int .u64 0, .slice none 0 0, .slice none 0 0, .int .i64 0, .int .u64 0, .int .u64 0, .int .i64 0] 98)) kb)
    have HQ := Lib.hid hq
    clear hq kb
    go_enter Tryz.func31, Tryz.ntmps31
    go_wp2_with fail
    refine cs.mono ?_
    rintro e w2 ⟨rfl, rfl⟩
    clear cs
    go_wp2
    go_ret2
    refine ⟨HB.out.1, .inr ⟨z, rfl, ?_⟩⟩
    rw [HQ.out]
    exact ⟨HB.out.2, rfl, Strm.nil _ _, World.ownsRow_nil _ _ _ _, fun b e => by cases e⟩
theorem results_tmp5 {fn : Func} {p q r s t : Tmp} (h : fn.results = #[.tmp p, .tmp q, .tmp r, .tmp s, .tmp t]) (tmps : Array Value) (w : World) :
    (results fn tmps).run Tryz.prog w = .ok (.tuple #[tmps.getD p undef, tmps.getD q undef, tmps.getD r undef, tmps.getD s undef, tmps.getD t undef]) w := by
  simp [results, h]
set_option maxHeartbeats 8000000 in
theorem rheader_any {A : Option Addr} {c B : Nat} {b : List Nat} {w : World} (h : Bytes w B A b) (hl : b.length = 128) (hc : 128 ≤ c) :
    Calls Tryz.prog 33 #[.slice A 128 c] w fun e w' => e = .returned (.tuple #[.int .u64 ((wheadP b).stamp : Nat), .int .i64 ((wheadP b).area : Nat), .int .u64 ((wheadP b).base : Nat), .int .u64 ((wheadP b).check : Nat), .bool (isHead b)]) ∧ Drew w w' := by
  have hsm := h.2
  have hih := rhead_is hsm hl
  obtain ⟨f0, f1, f2, f3⟩ := wheadP_fits hsm
  obtain ⟨g, o, rfl, hgB, -⟩ := h.at_ (k := 0) (by omega)
  have GET : Hid (∀ (p : Nat) (m : List Nat), p ≤ 120 → (b.drop p).take 8 = m → ∀ W, Drew w W → Calls Tryz.prog 84 #[.slice (some ⟨g, o + p, none⟩) 8 (c - p)] W fun e w' => e = .returned (.int .u64 (getL m : Nat)) ∧ Drew W w') := Lib.hid fun p m hp hm W hW => by
    have hb : Bytes W B (some ⟨g, o + p, none⟩) m := by rw [← hm]; exact ((h.below (hW.below B)).drop p).take 8
    have e8 : m.length = 8 := by rw [← hm, List.length_take, List.length_drop]; omega
    have := refget_any _ (c - p) m B W hb (by omega)
    rw [e8, List.take_of_length_le (by omega)] at this
    exact this
  have BYTE : Hid (∀ (i : Nat), i < 128 → ∀ W, Drew w W → W.cell? ⟨g, o + i, none⟩ = some (.int .u8 (b.getD i 0 : Nat)) ∧ b.getD i 0 < 256) := Lib.hid fun i hi W hW => by
    obtain ⟨g', o', e', h1, h2, h3⟩ := (h.below (hW.below B)).at_ (k := i) (by omega)
    injection e' with e'
    injection e' with e4 e5
    subst e4
    subst e5
    have : b.getD i 0 = b[i]'(by omega) := by rw [List.getD_eq_getElem?_getD, List.getElem?_eq_getElem (by omega)]; rfl
    rw [this]
    exact ⟨h2, h3⟩
  have hst : getL ((b.drop 0).take 8) = (wheadP b).stamp := rfl
  have hbs : getL ((b.drop 9).take 8) = (wheadP b).base := rfl
  have hck : getL ((b.drop 17).take 8) = (wheadP b).check := rfl
  have har : b.getD 8 0 = (wheadP b).area := rfl
  have hrh : rhOk b = (decide ((wheadP b).stamp ≠ 0) && (decide ((wheadP b).area < 2) && (decide ((wheadP b).base ≠ 0) && (decide ((wheadP b).base ≤ 9223372036854775808) && decide (getL (b.drop 120) = (wheadP b).stamp))))) := rfl
  have G1 := Lib.hid (GET.out 0 _ (by omega) rfl)
  have G2 := Lib.hid (GET.out 9 _ (by omega) rfl)
  have G3 := Lib.hid (GET.out 17 _ (by omega) rfl)
  have G4 := Lib.hid (GET.out 120 (b.drop 120) (by omega) (List.take_of_length_le (by rw [List.length_drop]; omega)))
  rw [hst] at G1
  rw [hbs] at G2
  rw [hck] at G3
  have B8 : Hid (∀ W, Drew w W → W.cell? ⟨g, o + 8, none⟩ = some (.int .u8 ((wheadP b).area : Nat))) := Lib.hid fun W hW => by rw [← har]; exact (BYTE.out 8 (by omega) W hW).1
  generalize (wheadP b).stamp = st at *
  generalize (wheadP b).base = bs at *
  generalize (wheadP b).check = ck at *
  generalize (wheadP b).area = ar at *
  obtain ⟨g5, hg5⟩ : ∃ g5, getL (b.drop 120) = g5 := ⟨_, rfl⟩
  rw [hg5] at G4 hrh
  obtain ⟨ok, hok⟩ : ∃ ok, rhOk b = ok := ⟨_, rfl⟩
  rw [hok] at hrh hih
  have HIH := Lib.hid hih
  have HRH := Lib.hid hrh
  have n9 : (c = 9) = False := eq_false (by omega)
  have n17 : (c = 17) = False := eq_false (by omega)
  have n120 : (c = 120) = False := eq_false (by omega)
  have c8 : (8 : Int) ≤ (c : Int) := by omega
  have c17 : (17 : Int) ≤ (c : Int) := by omega
  have c25 : (25 : Int) ≤ (c : Int) := by omega
  have c128 : (128 : Int) ≤ (c : Int) := by omega
  have V1 : Hid (IntKind.i64.wrap (ar : Int) = (ar : Int)) := Lib.hid (by rw [IntKind.wrap_i64]; omega)
  clear hst hbs hck har hrh hih hok hg5 GET h hsm hl f0 f1 f2
  go_enter Tryz.func33, Tryz.ntmps33
  go_wp2_with fail
  refine (G1.out w (Drew.refl _)).mono ?_
  rintro e w1 ⟨rfl, d1⟩
  have y8 := B8.out w1 d1
  have v1 := V1.out
  go_wp2_with fail
  refine (G2.out w1 d1).mono ?_
  rintro e w2 ⟨rfl, d2⟩
  have d2' := d1.trans d2
  clear y8 v1
  go_wp2_with fail
  refine (G3.out w2 d2').mono ?_
  rintro e w3 ⟨rfl, d3⟩
  have d3' := d2'.trans d3
  clear d1 d2 d3 d2'
  go_upto_region 5 with fail
  go_cut [11] (fun v11 wx => v11 = .bool ok ∧ Drew w wx)
  case first =>
    by_cases a1 : st = 0
    · have t1 : ((st : Int) != 0) = false := by rw [a1]; rfl
      have HO : Hid (ok = false) := Lib.hid (by rw [HRH.out, a1]; rfl)
      clear a1
      go_wp2
      go_meet
      case rel => exact ⟨by rw [HO.out], d3'⟩
    have t1 : ((st : Int) != 0) = true := by rw [bne_iff_ne]; omega
    have A1 : Hid (¬ st = 0) := Lib.hid a1
    by_cases a2 : ar < 2
    rotate_left
    · have t2 : decide ((ar : Int) < 2) = false := by rw [decide_eq_false_iff_not]; omega
      have HO : Hid (ok = false) := Lib.hid (by rw [HRH.out, decide_eq_false a2]; simp)
      go_wp2
      go_meet
      case rel => exact ⟨by rw [HO.out], d3'⟩
    have t2 : decide ((ar : Int) < 2) = true := by rw [decide_eq_true_iff]; omega
    by_cases a3 : bs = 0
    · have t3 : ((bs : Int) != 0) = false := by rw [a3]; rfl
      have HO : Hid (ok = false) := Lib.hid (by rw [HRH.out, a3]; simp)
      clear a3
      go_wp2
      go_meet
      case rel => exact ⟨by rw [HO.out], d3'⟩
    have t3 : ((bs : Int) != 0) = true := by rw [bne_iff_ne]; omega
    have A3 : Hid (¬ bs = 0) := Lib.hid a3
    by_cases a4 : bs ≤ 9223372036854775808
    rotate_left
    · have t4 : decide ((bs : Int) ≤ 9223372036854775808) = false := by rw [decide_eq_false_iff_not]; omega
      have HO : Hid (ok = false) := Lib.hid (by rw [HRH.out, decide_eq_false a4]; simp)
      go_wp2
      go_meet
      case rel => exact ⟨by rw [HO.out], d3'⟩
    have t4 : decide ((bs : Int) ≤ 9223372036854775808) = true := by rw [decide_eq_true_iff]; omega
    have HO : Hid (ok = decide (g5 = st)) := Lib.hid (by rw [HRH.out, decide_eq_true a1, decide_eq_true a2, decide_eq_true a3, decide_eq_true a4]; rfl)
    go_wp2_with fail
    refine (G4.out w3 d3').mono ?_
    rintro e w4 ⟨rfl, d4⟩
    have d4' := d3'.trans d4
    have t5 : ((g5 : Int) == (st : Int)) = decide (g5 = st) := by
      rw [Bool.eq_iff_iff, beq_iff_eq, decide_eq_true_iff]
      omega
    go_wp2
    go_meet
    case rel => exact ⟨by rw [HO.out], d4'⟩
  case rest =>
    rename World => w4
    obtain ⟨rfl, d4⟩ := hcut
    clear n9 n17 n120 c8 c17 c25 d3'
    go_wp2_with fail
    go_loopw [12, 11] (fun v12 v11 wr => ∃ i : Nat, 25 ≤ i ∧ i ≤ 120 ∧ v12 = .int .i64 (i : Nat) ∧ v11 = .bool (ok && zerosP b i) ∧ wr = w4) (fun v12 _ _ => 120 - (intOf v12).toNat)
    case atStart => exact ⟨25, by omega, by omega, rfl, by
      have : zerosP b 25 = true := by unfold zerosP; rw [decide_eq_true_iff]; intro i a c; omega
      rw [this, Bool.and_true], rfl⟩
    case round =>
      obtain ⟨i, hi1, hi2, rfl, rfl, rfl⟩ := hrel
      rcases Nat.lt_or_ge i 120 with hlt | hge
      · have e1 : decide ((i : Int) < 120) = true := by rw [decide_eq_true_iff]; omega
        have e2 : (0 : Int) ≤ (i : Int) := by omega
        have e3 : (i : Int) < 128 := by omega
        obtain ⟨yb, hx⟩ := BYTE.out i (by omega) wr d4
        have hz := zerosP_next b i hi1
        generalize b.getD i 0 = x at *
        generalize zerosP b i = zi at *
        have hoz : (ok && zerosP b (i + 1)) = ((ok && zi) && decide (x = 0)) := by rw [hz, Bool.and_assoc]
        generalize (ok && zi) = oz at *
        have HZ := Lib.hid hoz
        clear hz hoz
        cases oz with
        | false =>
          have HZ2 : Hid ((ok && zerosP b (i + 1)) = false) := Lib.hid (by rw [HZ.out]; rfl)
          clear HZ yb
          go_wp2
          go_roundw
          case rel => exact ⟨i + 1, by omega, by omega, by go_num, by rw [HZ2.out], trivial⟩
          case measure => simp [intOf]; omega
        | true =>
          have HZ2 : Hid ((ok && zerosP b (i + 1)) = decide (x = 0)) := Lib.hid (by rw [HZ.out]; rfl)
          clear HZ
          have t5 : ((x : Int) == 0) = decide (x = 0) := by
            rw [Bool.eq_iff_iff, beq_iff_eq, decide_eq_true_iff]
            omega
          go_wp2
          go_roundw
          case rel => exact ⟨i + 1, by omega, by omega, by go_num, by rw [HZ2.out], trivial⟩
          case measure => simp [intOf]; omega
      · obtain rfl : i = 120 := by omega
        have hz := HIH.out
        rw [hz]
        go_wp2
        refine bodyPost_ret (results_tmp5 rfl _ _) rfl ?_
        exact ⟨rfl, d4⟩
end Go.Proofs.YtkganajbilnanaaGreat
