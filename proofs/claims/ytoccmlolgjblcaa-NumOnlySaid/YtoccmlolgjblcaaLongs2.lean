/- The contract of the document's way to read long numbers, and the chapter's examples. Conditions: what is handed in reads as bytes. -/
import Derived.Test.YtoccmlolgjblcaaLongs
namespace Go.Proofs.Ytoccmlolgjblcaa
open Go.ChangeShapes Go.WideShapes Go.ChangeAt Go.RowKit
open NumMath
set_option linter.unusedVariables false
set_option linter.unusedSimpArgs false
set_option maxRecDepth 20000

theorem refshort_any (A : Option Addr) (c : Nat) (l : List Nat) (w : World) (h : Bytes w w.heap.size A l) (hl : l.length ≤ 100000) (hlc : l.length ≤ c) :
    Calls Try.prog 35 #[.slice A l.length c] w fun e w' => e = .returned (.tuple #[.int .u64 ((shortL l).1 : Nat), .int .i64 ((shortL l).2 : Nat)]) ∧ Below w.heap.size w w' := by
  have hS0 := shortL_ref l h.2
  have HS0 := Lib.hid hS0
  clear hS0
  go_enter Try.func35, Try.ntmps35
  go_wp2
  go_loopw [4, 5] (fun x i wr => ∃ k v : Nat, k ≤ 10 ∧ k ≤ l.length ∧ i = .int .i64 k ∧ x = .int .u64 v ∧ v < 18446744073709551616 ∧ Hid (shortL l = refF l k v (l.drop k)) ∧ Below w.heap.size w wr) (fun _ i _ => 10 - (intOf i).toNat)
  case atStart => exact ⟨0, 0, by omega, by omega, rfl, rfl, by omega, HS0.out, Below.refl _ _⟩
  case round =>
    obtain ⟨k, v, hk10, hk, rfl, rfl, hv, H, hb⟩ := hrel
    rcases (show (k < 10 ∧ k < l.length) ∨ (k = 10 ∧ k < l.length) ∨ k = l.length from by omega) with ⟨hlt, hlt2⟩ | ⟨hlt, hlt2⟩ | hge
    · obtain ⟨b, o, rfl, hbB, hc, hx⟩ := (h.below hb).at_ (k := k) hlt2
      have hdr := drop_cons l k hlt2
      obtain ⟨x, hxe⟩ : ∃ x, l[k] = x := ⟨_, rfl⟩
      rw [hxe] at hc hx hdr
      have hS : shortL l = refF l k v (x :: l.drop (k + 1)) := by rw [H.out, hdr]
      unfold refF at hS
      rw [if_neg (by omega)] at hS
      obtain ⟨y, hy⟩ : ∃ y, x % 128 = y := ⟨_, rfl⟩
      obtain ⟨q, hq⟩ : ∃ q, 7 * k = q := ⟨_, rfl⟩
      obtain ⟨v', hv'⟩ : ∃ v', (v + x % 128 * 128 ^ k) % two64 = v' := ⟨_, rfl⟩
      have hv2 : v' < 18446744073709551616 := by rw [← hv']; exact Nat.mod_lt _ (by decide)
      have hq7 : 7 * (k : Int) = (q : Int) := by omega
      have hyi : (x : Int) % 128 = (y : Int) := by omega
      have hyl : y < 128 := by omega
      have hql : q < 18446744073709551616 := by omega
      rw [hv'] at hS
      have hsum : IntKind.u64.wrap ((v : Int) + IntKind.u64.wrap ((y : Int) * ((pwN q : Nat) : Int))) = ((v' : Nat) : Int) := by
        have e4 : pwN q = 128 ^ k := by rw [← hq, pow128]; exact pow_mod_small (by omega)
        rw [e4, ← Int.natCast_mul, IntKind.wrap_u64, IntKind.wrap_u64, ← hv', hy]
        unfold two64
        omega
      clear hdr hxe hv' hq hy
      rcases Nat.lt_or_ge x 128 with hx1 | hx1
      · rw [if_pos hx1] at hS
        have HS := Lib.hid hS
        clear hS
        go_wp2_with fail
        go_quiet ((go_at_call 38; exact Calls.quiet_of_same ((power_any _ _ hql).mono fun _ _ hh => ⟨hh.1, hh.2.symm⟩)))
        generalize hwq : wr.drewN _ = wq
        have hdq : Drew wr wq := ⟨_, hwq.symm⟩
        clear hwq
        have hc2 : wq.cell? ⟨b, o + k, none⟩ = some (.int .u8 (x : Int)) := by rw [(hdq.below (b + 1)).cell (p := ⟨b, o + k, none⟩) (by simp)]; exact hc
        have hbq := hb.trans (hdq.below w.heap.size)
        go_wp2_with (go_at_call 37; refine (reflong_any _ _ hv2).mono ?_; rintro e w2 ⟨A1, c1, rfl, hown1, hb1, hs1⟩)
        have hbw := hbq.trans (hb1.mono hbq.size)
        have hT : Bytes w2 w.heap.size (some ⟨b, o, none⟩) (l.take (k + 1)) := (h.below hbw).take (k + 1)
        have hA : Bytes w2 w2.heap.size A1 (longL v') := own_bytes hown1 hs1
        have r1 := fun n => run_bytes_str (P := Try.prog) (w := w2.drewN n) hA 30 9 5 Try.underlying30 Try.underlying5 Try.underlying9 c1
        have r2 := fun n => run_bytes_str (P := Try.prog) (w := w2.drewN n) hT 30 9 5 Try.underlying30 Try.underlying5 Try.underlying9 c
        rw [List.length_take, Nat.min_eq_left (by omega)] at r2
        have r3 := strB_beq hs1 hT.2
        have HLL : Hid ((longL v').length ≤ 11) := (longL_length hv2).2
        generalize longL v' = L at *
        generalize l.take (k + 1) = T at *
        by_cases he : L = T
        · rw [decide_eq_true he] at r3
          have HSS := Lib.hid (show shortL l = (v', k + 1) by rw [HS.out, if_pos he])
          clear hown1 hb1 hs1 hA hT he hc2 hc hdq
          go_quiet (fail)
          go_wp2
          go_ret2
          exact ⟨by rw [HSS.out]; rfl, hbw.trans (below_drewN (Below.refl _ _) _)⟩
        · rw [decide_eq_false he] at r3
          have HSS := Lib.hid (show shortL l = (0, 0) by rw [HS.out, if_neg he])
          clear hown1 hb1 hs1 hA hT he hc2 hc hdq
          go_quiet (fail)
          go_wp2
          go_ret2
          exact ⟨by rw [HSS.out]; rfl, hbw.trans (below_drewN (Below.refl _ _) _)⟩
      · rw [if_neg (by omega)] at hS
        have HS := Lib.hid hS
        clear hS
        go_wp2_with fail
        go_quiet ((go_at_call 38; exact Calls.quiet_of_same ((power_any _ _ hql).mono fun _ _ hh => ⟨hh.1, hh.2.symm⟩)))
        go_wp2
        go_roundw
        case rel => exact ⟨k + 1, v', by omega, by omega, by go_num, by go_num, hv2, HS.out, hb.trans (below_drewN (Below.refl _ _) _)⟩
        case measure => simp [intOf]; omega
    · have hS : shortL l = (0, 0) := by
        rw [H.out]
        cases hd : l.drop k with
        | nil => rfl
        | cons a t => unfold refF; rw [if_pos (by omega)]
      have HS := Lib.hid hS
      subst hlt
      clear hS
      go_wp2
      go_ret2
      exact ⟨by rw [HS.out]; rfl, hb⟩
    · have hS : shortL l = (0, 0) := by rw [H.out, List.drop_eq_nil_of_le (by omega)]; rfl
      have HS := Lib.hid hS
      clear hS
      go_wp2
      go_ret2
      exact ⟨by rw [HS.out]; rfl, hb⟩

theorem short_two (x y : Nat) (w : World) (hx : x < 256) (hy : y < 256) (r : Nat × Nat) (hr : shortL [x, y] = r) :
    Calls Try.prog 34 #[.slice (some ⟨w.heap.size, 0, none⟩) 2 2] (w.alloc (.cells #[.int .u8 (x : Int), .int .u8 (y : Int)] 5)) fun e w' => e = .returned (.tuple #[.int .u64 (r.1 : Nat), .int .i64 (r.2 : Nat)]) ∧ w.alloc (.cells #[.int .u8 (x : Int), .int .u8 (y : Int)] 5) = w' := by
  have := short_any (some ⟨w.heap.size, 0, none⟩) 2 [x, y] (w.heap.size + 1) (w.alloc (.cells #[.int .u8 (x : Int), .int .u8 (y : Int)] 5)) (Bytes.new w [x, y] 5 (0, 0) (by intro z hz; simp at hz; omega)) (by simp)
  rw [hr] at this
  exact this
theorem known_any (w : World) : Calls Try.prog 15 #[] w fun e w' => e = .returned (.bool true) ∧ Below w.heap.size w w' := by
  have hn : nar 200 = #[.int .i64 200, .int .i64 200, .int .i64 200, .int .i64 (-56), .int .i64 200, .int .i64 200] := by
    unfold nar
    rw [show sgn 200 8 = -56 from by decide +kernel, show sgn 200 16 = 200 from by decide +kernel, show sgn 200 32 = 200 from by decide +kernel]
    rfl
  have hsg : sgn 255 8 = -1 := by decide +kernel
  have hfo : foldN (-3) = 5 := by decide
  have hro : rot 1 (far (-1)) = 9223372036854775808 := by decide +kernel
  go_enter Try.func15, Try.ntmps15
  go_wp2_with fail
  refine (put_any 258 2 _ (by omega) (by omega) (by omega)).mono ?_
  rintro e w1 ⟨A1, c1, rfl, hown1, hb1, hs1⟩
  have e1 : putB 258 2 = [2, 1] := by decide
  rw [e1] at hown1 ⊢
  obtain ⟨g1, rfl, hg1, hg2⟩ := own_pos hown1 (by decide)
  have k0 : w1.cell? ⟨g1, 0, none⟩ = some (.int .u8 2) := hown1.cellAt 0 (by decide)
  have k1 : w1.cell? ⟨g1, 1, none⟩ = some (.int .u8 1) := hown1.cellAt 1 (by decide)
  clear hown1 hs1 e1
  go_wp2_with fail
  refine (short_two 172 2 w1 (by omega) (by omega) (300, 2) (by decide)).mono ?_
  rintro e w2 ⟨rfl, hw2⟩
  have hb2 : Below w1.heap.size w1 w2 := by rw [← hw2]; exact (Below.refl _ _).alloc (Nat.le_refl _) _
  clear hw2
  go_wp2_with fail
  refine (short_two 128 0 w2 (by omega) (by omega) (0, 0) (by decide)).mono ?_
  rintro e w3 ⟨rfl, hw3⟩
  have hb3 : Below w2.heap.size w2 w3 := by rw [← hw3]; exact (Below.refl _ _).alloc (Nat.le_refl _) _
  clear hw3
  go_wp2_with fail
  refine (narrow_any 200 w3 (by omega)).mono ?_
  rintro e w4 ⟨rfl, hb4⟩
  rw [hn]
  have hb14 : Below w1.heap.size w1 w4 := hb2.trans ((hb3.mono hb2.size).trans (hb4.mono (by have := hb2.size; have := hb3.size; omega)))
  have m0 : w4.cell? ⟨g1, 0, none⟩ = some (.int .u8 2) := (hb14.cell (p := ⟨g1, 0, none⟩) hg2).trans k0
  have m1 : w4.cell? ⟨g1, 1, none⟩ = some (.int .u8 1) := (hb14.cell (p := ⟨g1, 1, none⟩) hg2).trans k1
  have hg4 : g1 < w4.heap.size := Nat.lt_of_lt_of_le hg2 hb14.size
  have hbw : Below w.heap.size w w4 := hb1.trans (hb14.mono hb1.size)
  have q0 : (w4.alloc (.cells #[.int .i64 200, .int .i64 200, .int .i64 200, .int .i64 (-56), .int .i64 200, .int .i64 200] 27)).cell? ⟨g1, 0, none⟩ = some (.int .u8 2) := (World.cell?_alloc_lt w4 _ ⟨g1, 0, none⟩ hg4).trans m0
  have q1 : (w4.alloc (.cells #[.int .i64 200, .int .i64 200, .int .i64 200, .int .i64 (-56), .int .i64 200, .int .i64 200] 27)).cell? ⟨g1, 1, none⟩ = some (.int .u8 1) := (World.cell?_alloc_lt w4 _ ⟨g1, 1, none⟩ hg4).trans m1
  clear hb2 hb3 hb4 k0 k1 hb14 hn
  go_wp2_with (first
    | (go_at_call 11; refine (signed_any 255 8 _ (by omega) (by omega) (by omega)).mono ?_; rintro e w' ⟨rfl, rfl⟩; rw [hsg])
    | (go_at_call 13; refine (fold_any (-3) _ (by omega) (by omega)).mono ?_; rintro e w' ⟨rfl, rfl⟩; rw [hfo])
    | (go_at_call 24; refine (turn_any 1 (-1) _ (by omega) (by omega) (by omega)).mono ?_; rintro e w' ⟨rfl, rfl⟩; rw [hro]))
  go_ret
  exact ⟨rfl, hbw.alloc hbw.size _⟩
end Go.Proofs.Ytoccmlolgjblcaa
