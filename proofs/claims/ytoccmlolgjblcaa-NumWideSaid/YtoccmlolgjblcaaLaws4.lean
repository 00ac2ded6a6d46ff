/- A law of chapter 1, walked: fewer bytes, fewer bits. Conditions: none beyond what the rows say. -/
import Derived.Test.YtoccmlolgjblcaaLaws3
namespace Go.Proofs.Ytoccmlolgjblcaa
open Go.ChangeShapes Go.WideShapes Go.ChangeAt Go.RowKit
open NumMath
set_option linter.unusedVariables false
set_option linter.unusedSimpArgs false
set_option maxRecDepth 20000

theorem sgn_bm (n k : Nat) (hk : 1 ≤ k) (hk2 : k ≤ 64) : sgn n k = bm n k := by unfold sgn; rw [if_neg (by omega)]; congr 1; omega
theorem wide_facts (n : Nat) : ∃ (n8 n16 n32 y : Nat) (s8 s16 s32 : Int), nar n = #[.int .i64 n8, .int .i64 n16, .int .i64 n32, .int .i64 s8, .int .i64 s16, .int .i64 s32] ∧ n8 < 256 ∧ n16 < 65536 ∧ n32 < 4294967296 ∧
    ((n8 : Int) == (n16 : Int) % 256) = true ∧ ((n16 : Int) == (n32 : Int) % 65536) = true ∧ sgn n32 8 = s8 ∧ sgn n 16 = s16 ∧ sgn y 32 = s32 ∧ IntKind.u64.wrap s32 = (y : Int) ∧ y < 18446744073709551616 ∧ -2147483648 ≤ s32 ∧ s32 < 2147483648 := by
  obtain ⟨y, hy1, hy2, _, hy3⟩ := again n 32 (by omega)
  obtain ⟨e32, b1, b2⟩ := sgn_small n 32 (by omega) (by omega)
  refine ⟨n % 256, n % 65536, n % 4294967296, y, sgn n 8, sgn n 16, sgn n 32, rfl, Nat.mod_lt _ (by omega), Nat.mod_lt _ (by omega), Nat.mod_lt _ (by omega), ?_, ?_, ?_, rfl, hy3, hy1, hy2, by simpa using b1, by simpa using b2⟩
  · rw [beq_iff_eq]; omega
  · rw [beq_iff_eq]; omega
  · have h1 := sgn_bm (n % 4294967296) 8 (by omega) (by omega)
    have h2 := sgn_bm n 8 (by omega) (by omega)
    rw [show ((8 : Nat) : Int) = 8 from rfl] at h1 h2
    rw [h1, h2, Int.natCast_emod, show ((4294967296 : Nat) : Int) = 2 ^ 32 from rfl, bm_mod _ _ _ (by omega)]

theorem neg_word (v : Int) (h : v < 0) (h1 : -9223372036854775808 ≤ v) : ∃ u : Nat, IntKind.u64.wrap v = (u : Int) ∧ u < 18446744073709551616 ∧ (((foldN v : Nat) : Int) % 2 == ((rgt u 63 : Nat) : Int)) = true := by
  have hf := foldN_is v
  rw [if_neg (by omega)] at hf
  refine ⟨(v + 18446744073709551616).toNat, by rw [IntKind.wrap_u64]; omega, by omega, ?_⟩
  have hr : rgt (v + 18446744073709551616).toNat 63 = 1 := by
    unfold rgt
    rw [show (2 : Nat) ^ 63 = 9223372036854775808 from by decide]
    omega
  rw [hr, beq_iff_eq]
  omega
theorem pos_word (u : Nat) (h : u ≤ 9223372036854775807) : (((foldN u : Nat) : Int) % 2 == ((rgt u 63 : Nat) : Int)) = true := by
  have hf := foldN_is u
  rw [if_pos (by omega)] at hf
  have hr : rgt u 63 = 0 := by
    unfold rgt
    rw [show (2 : Nat) ^ 63 = 9223372036854775808 from by decide]
    omega
  rw [hr, beq_iff_eq]
  omega
set_option maxHeartbeats 1000000 in
theorem numWide_walk (a0 : Int) (a1 : Int) (a2 : Int) (a3 : Int) (w0 : (Lit.int .u64 a0).wf = true) (w1 : (Lit.int .u8 a1).wf = true) (w2 : (Lit.int .u8 a2).wf = true) (w3 : (Lit.int .i64 a3).wf = true) (w : World) :
    Calls Try.prog 4 #[.int .u64 a0, .int .u8 a1, .int .u8 a2, .int .i64 a3] w fun e w' => e = .returned (.bool true) ∧ Below w.heap.size w w' := by
  obtain ⟨n, rfl, hn⟩ := nat_u64 w0
  obtain ⟨a, rfl, ha⟩ := nat_u8 w1
  obtain ⟨b, rfl, hb⟩ := nat_u8 w2
  obtain ⟨v1, v2⟩ := in_i64 w3
  clear w0 w1 w2 w3
  obtain ⟨x, hx, hx1, hx2⟩ : ∃ x : Nat, 1 + (a : Int) % 8 = (x : Int) ∧ 1 ≤ x ∧ x ≤ 8 := ⟨1 + a % 8, by omega, by omega, by omega⟩
  obtain ⟨y, hy, hy1, hy2⟩ : ∃ y : Nat, 1 + (b : Int) % 8 = (y : Int) ∧ 1 ≤ y ∧ y ≤ 8 := ⟨1 + b % 8, by omega, by omega, by omega⟩
  obtain ⟨p, hp, hp1, hp2⟩ : ∃ p : Nat, (if y < x then (y : Int) else (x : Int)) = (p : Int) ∧ 1 ≤ p ∧ p ≤ 8 := ⟨min x y, by split <;> omega, by omega, by omega⟩
  obtain ⟨q, hq, hq1, hpq⟩ : ∃ q : Nat, (if x < y then (y : Int) else (x : Int)) = (q : Int) ∧ q ≤ 8 ∧ p ≤ q := ⟨max x y, by split <;> omega, by omega, by split at hp <;> omega⟩
  have hput : ∀ k : Nat, 1 ≤ k → k ≤ 8 → ∀ W, Calls Try.prog 20 #[.int .u64 n, .int .i64 k] W (RetBytes 5 (putF k n) W) := fun k k1 k2 W => by
    have := put_any n k W hn (by omega) (by omega)
    rw [show putB n k = putF k n from by unfold putB; rw [if_pos (by omega)]; rfl] at this
    exact this
  have HPUT := Lib.hid hput
  clear hput
  go_enter Try.func4, Try.ntmps4
  go_wp2_with fail
  refine (HPUT.out p hp1 hp2 _).mono ?_
  rintro e w1 ⟨A1, c1, rfl, hown1, hb1, hs1⟩
  have hB1 := own_bytes hown1 hs1
  rw [putF_length]
  clear hown1
  go_wp2_with fail
  refine (HPUT.out q (by omega) hq1 _).mono ?_
  rintro e w2 ⟨A2, c2, rfl, hown2, hb2, hs2⟩
  have hB2 := own_bytes hown2 hs2
  have hc2 := own_cap hown2
  rw [putF_length] at hc2 ⊢
  have hB12 := (hB1.below hb2).more hb2.size
  have HF2 : Below w.heap.size w w2 := hb1.trans (hb2.mono hb1.size)
  clear hown2 hB1 hb1 hb2 hp hq hx hy
  go_wp2_with fail
  refine (narrow_any n _ hn).mono ?_
  rintro e w3 ⟨rfl, hb3⟩
  obtain ⟨n8, n16, n32, yy, s8, s16, s32, hnar, l8, l16, l32, t1, t2, g1, g2, g3, hyw, hyl, bs1, bs2⟩ := wide_facts n
  rw [hnar]
  have hB3 := ((hB12.below hb3).more hb3.size).alloc (Nat.le_refl _) (.cells #[.int .i64 n8, .int .i64 n16, .int .i64 n32, .int .i64 s8, .int .i64 s16, .int .i64 s32] 27)
  have hC3 := (((hB2.below hb3).more hb3.size).alloc (Nat.le_refl _) (.cells #[.int .i64 n8, .int .i64 n16, .int .i64 n32, .int .i64 s8, .int .i64 s16, .int .i64 s32] 27)).take p
  rw [putF_take p q n hpq] at hC3
  have HF3 : Below w.heap.size w w3 := HF2.trans (hb3.mono HF2.size)
  have hsame := same_any A1 A2 c1 c2 (putF p n) (putF p n) _ _ hB3 hC3
  rw [decide_eq_true rfl, putF_length] at hsame
  have HSAME := Lib.hid hsame
  clear hsame hB3 hC3 hB12 hB2 hb3 hs1 hs2 HF2 hnar
  go_wp2_with fail
  refine HSAME.out.mono ?_
  rintro e w' ⟨rfl, rfl⟩
  go_wp2_with fail
  have hl32 : n32 < 18446744073709551616 := by omega
  clear HSAME HPUT
  go_quiet ((go_at_call 11; exact Calls.quiet_of_same ((signed_any _ _ _ (by first | exact hn | exact hl32 | exact hyl) (by omega) (by omega)).mono fun _ _ hh => ⟨hh.1, hh.2.symm⟩)))
  generalize hwq : World.drewN _ _ = w4
  have HF4 : Below w.heap.size w w4 := by rw [← hwq]; exact (HF3.alloc HF3.size _).trans (below_drewN (Below.refl _ _) _)
  clear hwq HF3 t1 t2 g1 g2 g3 hyw
  have hfl := foldN_lt v1 v2
  have hfi := foldN_is a3
  rcases (show a3 ≤ -1000 ∨ (-1000 < a3 ∧ a3 < 0) ∨ (0 ≤ a3 ∧ a3 < 1000) ∨ 1000 ≤ a3 from by omega) with hv | hv | hv | hv
  · obtain ⟨u, huw, hu, hut⟩ := neg_word a3 (by omega) v1
    clear hfi
    go_wp2_with fail
    refine (known_any _).mono ?_
    rintro e w5 ⟨rfl, hb5⟩
    have HF5 : Below w.heap.size w w5 := HF4.trans (hb5.mono HF4.size)
    clear HF4 hb5
    go_wp2_with fail
    refine (fold_any _ _ (by omega) (by omega)).mono ?_
    rintro e w' ⟨rfl, rfl⟩
    go_wp2_with fail
    refine (right_any u 63 _ hu (by omega)).mono ?_
    rintro e w' ⟨rfl, rfl⟩
    go_wp2_with fail
    go_ret
    exact ⟨rfl, HF5⟩
  · obtain ⟨u, huw, hu, hut⟩ := neg_word a3 (by omega) v1
    have hsm : foldN a3 < 2000 := by rw [if_neg (by omega)] at hfi; omega
    clear hfi
    go_wp2_with fail
    refine (known_any _).mono ?_
    rintro e w5 ⟨rfl, hb5⟩
    have HF5 : Below w.heap.size w w5 := HF4.trans (hb5.mono HF4.size)
    clear HF4 hb5
    go_wp2_with fail
    refine (fold_any _ _ (by omega) (by omega)).mono ?_
    rintro e w' ⟨rfl, rfl⟩
    go_wp2_with fail
    refine (fold_any _ _ (by omega) (by omega)).mono ?_
    rintro e w' ⟨rfl, rfl⟩
    go_wp2_with fail
    refine (right_any u 63 _ hu (by omega)).mono ?_
    rintro e w' ⟨rfl, rfl⟩
    go_wp2_with fail
    go_ret
    exact ⟨rfl, HF5⟩
  · obtain ⟨u, rfl⟩ : ∃ u : Nat, a3 = u := ⟨a3.toNat, by omega⟩
    have hu : u < 18446744073709551616 := by omega
    have hut := pos_word u (by omega)
    have hsm : foldN u < 2000 := by rw [if_pos (by omega)] at hfi; omega
    clear hfi
    go_wp2_with fail
    refine (known_any _).mono ?_
    rintro e w5 ⟨rfl, hb5⟩
    have HF5 : Below w.heap.size w w5 := HF4.trans (hb5.mono HF4.size)
    clear HF4 hb5
    go_wp2_with fail
    refine (fold_any _ _ (by omega) (by omega)).mono ?_
    rintro e w' ⟨rfl, rfl⟩
    go_wp2_with fail
    refine (fold_any _ _ (by omega) (by omega)).mono ?_
    rintro e w' ⟨rfl, rfl⟩
    go_wp2_with fail
    refine (right_any u 63 _ hu (by omega)).mono ?_
    rintro e w' ⟨rfl, rfl⟩
    go_wp2_with fail
    go_ret
    exact ⟨rfl, HF5⟩
  · obtain ⟨u, rfl⟩ : ∃ u : Nat, a3 = u := ⟨a3.toNat, by omega⟩
    have hu : u < 18446744073709551616 := by omega
    have hut := pos_word u (by omega)
    clear hfi
    go_wp2_with fail
    refine (known_any _).mono ?_
    rintro e w5 ⟨rfl, hb5⟩
    have HF5 : Below w.heap.size w w5 := HF4.trans (hb5.mono HF4.size)
    clear HF4 hb5
    go_wp2_with fail
    refine (fold_any _ _ (by omega) (by omega)).mono ?_
    rintro e w' ⟨rfl, rfl⟩
    go_wp2_with fail
    refine (right_any u 63 _ hu (by omega)).mono ?_
    rintro e w' ⟨rfl, rfl⟩
    go_wp2_with fail
    go_ret
    exact ⟨rfl, HF5⟩
end Go.Proofs.Ytoccmlolgjblcaa
