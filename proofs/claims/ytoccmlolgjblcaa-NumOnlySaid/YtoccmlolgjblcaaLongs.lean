/- The contracts of chapter 1's functions on long numbers. Conditions: numbers fit their kinds; what is handed in reads as bytes. -/
import Derived.Test.YtoccmlolgjblcaaBytes
namespace Go.Proofs.Ytoccmlolgjblcaa
open Go.ChangeShapes Go.WideShapes Go.ChangeAt Go.RowKit
open NumMath
set_option linter.unusedVariables false
set_option maxRecDepth 20000
set_option linter.unusedSimpArgs false

theorem mark_form (d : Nat) : bits .or .u8 ((d : Int) % 256) 128 = ((d % 128 + 128 : Nat) : Int) := by
  have e : (d : Int) % 256 = ((d % 256 : Nat) : Int) := by omega
  have h := u8_or_nat (d % 256) 128 (by omega) (by omega)
  rw [e]
  refine h.trans ?_
  have hj : 128 ||| d % 128 = 128 + d % 128 := nat_join 7 128 (d % 128) (by decide) (by omega)
  rcases (show d % 256 = d % 128 ∨ d % 256 = 128 + d % 128 from by omega) with hq | hq
  · rw [hq, Nat.or_comm, hj, Nat.add_comm]
  · rw [hq, ← hj, Nat.or_comm, ← Nat.or_assoc, Nat.or_self, hj, Nat.add_comm]
theorem longF_last (f d : Nat) (h : d < 128) : longF f d = [d] := by
  cases f with
  | zero => rfl
  | succ f => unfold longF; rw [if_pos h]
theorem longF_next (f d : Nat) (h : 128 ≤ d) (hf : d < 128 ^ (f + 1)) : ∃ g, f = g + 1 ∧ longF f d = (d % 128 + 128) :: longF g (d / 128) ∧ d / 128 < 128 ^ (g + 1) := by
  cases f with
  | zero => simp at hf; omega
  | succ g => exact ⟨g, rfl, by rw [longF, if_neg (by omega)], by rw [Nat.pow_succ] at hf; exact Nat.div_lt_of_lt_mul (by omega)⟩
theorem longL_small {n : Nat} (h : n < 18446744073709551616) : Small (longL n) := longF_small 10 n (long_fits h)
theorem longL_length {n : Nat} (h : n < 18446744073709551616) : 1 ≤ (longL n).length ∧ (longL n).length ≤ 11 := by
  obtain ⟨pre, c, he, _, hl⟩ := longF_canon 10 n (long_fits h)
  unfold longL
  rw [he]
  simp
  omega

theorem long_any (n : Nat) (w : World) (h1 : n < 18446744073709551616) : Calls Try.prog 36 #[.int .u64 n] w (RetBytes 5 (longL n) w) := by
  obtain ⟨i0, hi0, hz0, hz1, hz2⟩ := info_parts u8_info
  have hS := longL_small h1
  have hL := (longL_length h1).2
  obtain ⟨L, hLe⟩ : ∃ L, longL n = L := ⟨_, rfl⟩
  rw [hLe] at hS hL ⊢
  have HL0 := Lib.hid hLe
  have HS := Lib.hid hS
  clear hLe hS
  go_enter Try.func36, Try.ntmps36
  go_wp2
  go_loopw [0, 3] (fun q v wr => ∃ (f d : Nat) (pre : List Nat) (A : Option Addr) (c : Nat), q = .int .u64 d ∧ d < 18446744073709551616 ∧ v = .slice A pre.length c ∧ wr.ownsRow w.heap.size 5 1 (.slice A pre.length c) pre.length (pre.map byteV) ∧ Below w.heap.size w wr ∧ Hid (L = pre ++ longF f d ∧ d < 128 ^ (f + 1))) (fun q _ _ => (intOf q).toNat)
  case atStart => exact ⟨10, n, [], none, 0, rfl, h1, rfl, World.ownsRow_nil _ _ _ _, Below.refl _ _, HL0.out.symm, long_fits h1⟩
  case round =>
    obtain ⟨f, d, pre, A, c, rfl, hd, rfl, hown, hb, H⟩ := hrel
    have hsz := hb.size
    have hpl : pre.length ≤ 11 := by
      have := congrArg List.length H.out.1
      rw [List.length_append] at this
      omega
    rcases Nat.lt_or_ge d 128 with hlt | hge
    · skip
      go_wp2_with (at_builtin; refine wpList_append_at rfl (.tmp 14) (.tmp 17) 30 rfl w.heap.size 5 i0 _ 1 Try.underlying30 hi0 hz0 hz1 hz2 rfl (.slice A pre.length c) pre.length (pre.map byteV) rfl (hown.alloc _) (wr.heap.size + 1) (some ⟨wr.heap.size, 0, none⟩) 1 1 [byteV d] rfl rfl (one_new wr d) (bytes_oneCell [d]) (by unfold maxLen; omega) (by omega) (by rw [World.size_alloc]; omega) ?_; intro A1 c1 w1 hown1 hg1 hat1)
      go_ret
      have he : L = pre ++ [d] := by rw [H.out.1, longF_last f d hlt]
      refine ⟨A1, c1, ret_slice (by rw [he]; simp), ?_, below_own (hb.alloc hsz _) hg1 (hown.alloc _) (Nat.le_refl _) (by rw [World.size_alloc]; omega), HS.out⟩
      rw [he, List.length_append, List.map_append]
      exact hown1
    · obtain ⟨g, rfl, hl, hq⟩ := longF_next f d hge H.out.2
      have hm := mark_form d
      obtain ⟨x, hx⟩ : ∃ x, d % 128 + 128 = x := ⟨_, rfl⟩
      rw [hx] at hm hl
      have HL := Lib.hid (And.intro hl hq)
      clear hx hl hq
      go_wp2_with (at_builtin; refine wpList_append_at rfl (.tmp 8) (.tmp 12) 30 rfl w.heap.size 5 i0 _ 1 Try.underlying30 hi0 hz0 hz1 hz2 rfl (.slice A pre.length c) pre.length (pre.map byteV) rfl (hown.alloc _) (wr.heap.size + 1) (some ⟨wr.heap.size, 0, none⟩) 1 1 [byteV x] rfl rfl (one_new wr x) (bytes_oneCell [x]) (by unfold maxLen; omega) (by omega) (by rw [World.size_alloc]; omega) ?_; intro A1 c1 w1 hown1 hg1 hat1)
      go_roundw
      case rel =>
        refine ⟨g, d / 128, pre ++ [x], A1, c1, by go_num, by omega, by rw [List.length_append]; rfl, ?_, below_own (hb.alloc hsz _) hg1 (hown.alloc _) (Nat.le_refl _) (by rw [World.size_alloc]; omega), ?_, HL.out.2⟩
        · rw [List.length_append, List.map_append]
          exact hown1
        · rw [H.out.1, HL.out.1]; simp
      case measure => simp [intOf]; omega

theorem reflong_any (n : Nat) (w : World) (h1 : n < 18446744073709551616) : Calls Try.prog 37 #[.int .u64 n] w (RetBytes 5 (longL n) w) := by
  obtain ⟨i0, hi0, hz0, hz1, hz2⟩ := info_parts u8_info
  have hS := longL_small h1
  have hL := (longL_length h1).2
  obtain ⟨L, hLe⟩ : ∃ L, longL n = L := ⟨_, rfl⟩
  rw [hLe] at hS hL ⊢
  have HL0 := Lib.hid hLe
  have HS := Lib.hid hS
  clear hLe hS
  go_enter Try.func37, Try.ntmps37
  go_wp2
  go_loopw [0, 3] (fun q v wr => ∃ (f d : Nat) (pre : List Nat) (A : Option Addr) (c : Nat), q = .int .u64 d ∧ d < 18446744073709551616 ∧ v = .slice A pre.length c ∧ wr.ownsRow w.heap.size 5 1 (.slice A pre.length c) pre.length (pre.map byteV) ∧ Below w.heap.size w wr ∧ Hid (L = pre ++ longF f d ∧ d < 128 ^ (f + 1))) (fun q _ _ => (intOf q).toNat)
  case atStart => exact ⟨10, n, [], none, 0, rfl, h1, rfl, World.ownsRow_nil _ _ _ _, Below.refl _ _, HL0.out.symm, long_fits h1⟩
  case round =>
    obtain ⟨f, d, pre, A, c, rfl, hd, rfl, hown, hb, H⟩ := hrel
    have hsz := hb.size
    have hpl : pre.length ≤ 11 := by
      have := congrArg List.length H.out.1
      rw [List.length_append] at this
      omega
    rcases Nat.lt_or_ge d 128 with hlt | hge
    · skip
      go_wp2_with (at_builtin; refine wpList_append_at rfl (.tmp 15) (.tmp 18) 30 rfl w.heap.size 5 i0 _ 1 Try.underlying30 hi0 hz0 hz1 hz2 rfl (.slice A pre.length c) pre.length (pre.map byteV) rfl (hown.alloc _) (wr.heap.size + 1) (some ⟨wr.heap.size, 0, none⟩) 1 1 [byteV d] rfl rfl (one_new wr d) (bytes_oneCell [d]) (by unfold maxLen; omega) (by omega) (by rw [World.size_alloc]; omega) ?_; intro A1 c1 w1 hown1 hg1 hat1)
      go_ret
      have he : L = pre ++ [d] := by rw [H.out.1, longF_last f d hlt]
      refine ⟨A1, c1, ret_slice (by rw [he]; simp), ?_, below_own (hb.alloc hsz _) hg1 (hown.alloc _) (Nat.le_refl _) (by rw [World.size_alloc]; omega), HS.out⟩
      rw [he, List.length_append, List.map_append]
      exact hown1
    · obtain ⟨g, rfl, hl, hq⟩ := longF_next f d hge H.out.2
      obtain ⟨x, hx⟩ : ∃ x, d % 128 + 128 = x := ⟨_, rfl⟩
      have hm : (d : Int) % 128 + 128 = (x : Int) := by omega
      have hx256 : x < 256 := by omega
      rw [hx] at hl
      have HL := Lib.hid (And.intro hl hq)
      clear hx hl hq
      go_wp2_with (at_builtin; refine wpList_append_at rfl (.tmp 6) (.tmp 11) 30 rfl w.heap.size 5 i0 _ 1 Try.underlying30 hi0 hz0 hz1 hz2 rfl (.slice A pre.length c) pre.length (pre.map byteV) rfl (hown.alloc _) (wr.heap.size + 1) (some ⟨wr.heap.size, 0, none⟩) 1 1 [byteV x] rfl rfl (one_new wr x) (bytes_oneCell [x]) (by unfold maxLen; omega) (by omega) (by rw [World.size_alloc]; omega) ?_; intro A1 c1 w1 hown1 hg1 hat1)
      go_roundw
      case rel =>
        refine ⟨g, d / 128, pre ++ [x], A1, c1, by go_num, by omega, by rw [List.length_append]; rfl, ?_, below_own (hb.alloc hsz _) hg1 (hown.alloc _) (Nat.le_refl _) (by rw [World.size_alloc]; omega), ?_, HL.out.2⟩
        · rw [List.length_append, List.map_append]
          exact hown1
        · rw [H.out.1, HL.out.1]; simp
      case measure => simp [intOf]; omega

theorem drop_cons (l : List Nat) (k : Nat) (h : k < l.length) : l.drop k = l[k] :: l.drop (k + 1) := List.drop_eq_getElem_cons h
theorem pow128 (k : Nat) : 128 ^ k = 2 ^ (7 * k) := by rw [Nat.pow_mul]
theorem cast_shl (y r : Nat) : IntKind.u64.wrap ((y : Int) * 2 ^ r) = ((y * 2 ^ r % 18446744073709551616 : Nat) : Int) := by
  have e : (y : Int) * 2 ^ r = ((y * 2 ^ r : Nat) : Int) := by rw [Int.natCast_mul, Int.natCast_pow]; rfl
  rw [IntKind.wrap_u64, e]
  omega
theorem test_form (y k : Nat) (hy : y < 128) : (IntKind.u64.wrap ((y : Int) * 2 ^ min (7 * k) 64) / 2 ^ min (7 * k) 64 != (y : Int)) = decide (two64 ≤ y * 128 ^ k) := by
  have e : IntKind.u64.wrap ((y : Int) * 2 ^ min (7 * k) 64) / 2 ^ min (7 * k) 64 = ((y * 2 ^ min (7 * k) 64 % 18446744073709551616 / 2 ^ min (7 * k) 64 : Nat) : Int) := by
    rw [cast_shl, Int.natCast_ediv, Int.natCast_pow]; rfl
  have key : y * 2 ^ min (7 * k) 64 % 18446744073709551616 / 2 ^ min (7 * k) 64 = y ↔ ¬ two64 ≤ y * 128 ^ k := by
    rcases Nat.lt_or_ge k 10 with hk | hk
    · rw [Nat.min_eq_left (by omega), pow128]
      obtain ⟨Q, hQ⟩ : ∃ Q, 18446744073709551616 = Q * 2 ^ (7 * k) := ⟨2 ^ (64 - 7 * k), by rw [← Nat.pow_add, show 64 - 7 * k + 7 * k = 64 from by omega]⟩
      have hp : 0 < 2 ^ (7 * k) := Nat.two_pow_pos _
      rw [hQ, Nat.mul_mod_mul_right, Nat.mul_div_cancel _ hp]
      unfold two64
      rw [hQ]
      constructor
      · intro h h2
        have hlt : y % Q < Q := Nat.mod_lt _ (by
          rcases Nat.eq_zero_or_pos Q with q | q
          · subst q; simp at hQ
          · exact q)
        have := Nat.le_of_mul_le_mul_right h2 hp
        omega
      · intro h
        refine Nat.mod_eq_of_lt ?_
        rcases Nat.lt_or_ge y Q with q | q
        · exact q
        · exact absurd (Nat.mul_le_mul_right _ q) h
    · rw [Nat.min_eq_right (by omega), show (2 : Nat) ^ 64 = 18446744073709551616 from rfl, Nat.mul_mod_left, Nat.zero_div]
      have hp := pow_big hk
      constructor
      · intro h h2
        subst h
        simp [two64] at h2
      · intro h
        rcases Nat.eq_zero_or_pos y with q | q
        · exact q.symm
        · exact absurd (Nat.le_trans hp (Nat.le_mul_of_pos_left _ q)) h
  rw [e, bne, Bool.eq_iff_iff, Bool.not_eq_true', beq_eq_false_iff_ne, decide_eq_true_iff]
  constructor
  · intro h
    rcases Nat.lt_or_ge (y * 128 ^ k) two64 with q | q
    · exact absurd (congrArg (fun z : Nat => (z : Int)) (key.2 (by omega))) h
    · exact q
  · intro h h2
    exact key.1 (by exact_mod_cast h2) h
theorem or_form (v y k : Nat) (hy : y < 128) (hv : v < 18446744073709551616) (hv2 : k < 10 → v < 128 ^ k) (hfit : ¬ two64 ≤ y * 128 ^ k) :
    bits .or .u64 (v : Int) (IntKind.u64.wrap ((y : Int) * 2 ^ min (7 * k) 64)) = ((v + y * 128 ^ k : Nat) : Int) := by
  rw [cast_shl, u64_or_nat _ _ hv (Nat.mod_lt _ (by omega))]
  rcases Nat.lt_or_ge k 10 with hk | hk
  · rw [Nat.min_eq_left (by omega), pow128]
    rw [pow128] at hfit
    have hv3 := hv2 hk
    rw [pow128] at hv3
    rw [Nat.mod_eq_of_lt (a := y * 2 ^ (7 * k)) (by unfold two64 at hfit; omega), Nat.or_comm, nat_join (7 * k) _ _ (Nat.mul_mod_left _ _) hv3, Nat.add_comm]
  · have hp := pow_big hk
    have hy0 : y = 0 := by
      rcases Nat.eq_zero_or_pos y with q | q
      · exact q
      · exact absurd (Nat.le_trans hp (Nat.le_mul_of_pos_left _ q)) hfit
    subst hy0
    simp
theorem low_form (x : Nat) (hx : x < 256) : bits .andNot .u8 (x : Int) 128 = ((x % 128 : Nat) : Int) := by
  have h := u8_andNot_nat x 128 hx (by omega)
  rw [show 255 - 128 = 127 from rfl, nat_mask7] at h
  exact h
theorem fits_next {v y k : Nat} (hv : v < 18446744073709551616) (hy : y < 128) (hv2 : k < 10 → v < 128 ^ k) (hfit : ¬ two64 ≤ y * 128 ^ k) : v + y * 128 ^ k < 18446744073709551616 := by
  rcases Nat.lt_or_ge k 10 with hk | hk
  · have h1 := hv2 hk
    rcases Nat.lt_or_ge k 9 with h9 | h9
    · have h2 : 128 ^ (k + 1) * 2 ≤ two64 := pow_le_nine (by omega)
      have h3 : y * 128 ^ k ≤ 127 * 128 ^ k := Nat.mul_le_mul_right _ (by omega)
      rw [Nat.pow_succ] at h2
      unfold two64 at h2
      omega
    · obtain rfl : k = 9 := by omega
      have e1 : (128 : Nat) ^ 9 = 9223372036854775808 := by decide
      rw [e1] at h1 hfit ⊢
      unfold two64 at hfit
      omega
  · have hp := pow_big hk
    have hy0 : y = 0 := by
      rcases Nat.eq_zero_or_pos y with q | q
      · exact q
      · exact absurd (Nat.le_trans hp (Nat.le_mul_of_pos_left _ q)) hfit
    subst hy0
    omega
theorem short_any (A : Option Addr) (c : Nat) (l : List Nat) (B : Nat) (w : World) (h : Bytes w B A l) (hl : l.length ≤ 100000) :
    Calls Try.prog 34 #[.slice A l.length c] w fun e w' => e = .returned (.tuple #[.int .u64 ((shortL l).1 : Nat), .int .i64 ((shortL l).2 : Nat)]) ∧ w = w' := by
  go_enter Try.func34, Try.ntmps34
  go_wp2
  go_loop [4, 10] (fun x i => ∃ k v : Nat, k ≤ l.length ∧ i = .int .i64 k ∧ x = .int .u64 v ∧ v < 18446744073709551616 ∧ Hid (shortL l = shortF k v (l.drop k) ∧ (k < 10 → v < 128 ^ k))) (fun _ i => l.length - (intOf i).toNat)
  case atStart => exact ⟨0, 0, by omega, rfl, rfl, by omega, rfl, fun _ => by omega⟩
  case round =>
    obtain ⟨k, v, hk, rfl, rfl, hv, H⟩ := hrel
    rcases Nat.lt_or_ge k l.length with hlt | hge
    · obtain ⟨b, o, rfl, hb, hc, hx⟩ := h.at_ (k := k) hlt
      have hdr := drop_cons l k hlt
      obtain ⟨x, hxe⟩ : ∃ x, l[k] = x := ⟨_, rfl⟩
      rw [hxe] at hc hx hdr
      have hS : shortL l = shortF k v (x :: l.drop (k + 1)) := by rw [H.out.1, hdr]
      unfold shortF at hS
      have hlow := low_form x hx
      have htst := test_form (x % 128) k (Nat.mod_lt _ (by omega))
      have hor := or_form v (x % 128) k (Nat.mod_lt _ (by omega)) hv H.out.2
      have hfn := fits_next (y := x % 128) hv (Nat.mod_lt _ (by omega)) H.out.2
      have hvn : k + 1 < 10 → v + x % 128 * 128 ^ k < 128 ^ (k + 1) := fun hk1 => by
        have h1 := H.out.2 (by omega)
        have h3 : x % 128 * 128 ^ k ≤ 127 * 128 ^ k := Nat.mul_le_mul_right _ (by omega)
        rw [Nat.pow_succ]
        omega
      have HVN := Lib.hid hvn
      obtain ⟨y, hy⟩ : ∃ y, x % 128 = y := ⟨_, rfl⟩
      obtain ⟨q, hq⟩ : ∃ q, 7 * k = q := ⟨_, rfl⟩
      obtain ⟨v', hv'⟩ : ∃ v', v + x % 128 * 128 ^ k = v' := ⟨_, rfl⟩
      have HV := Lib.hid hv'
      have hq7 : 7 * (k : Int) = (q : Int) := by omega
      have hyl : y < 128 := by omega
      rw [hv', hy] at hS
      rw [hy] at hlow
      rw [hq, hy] at htst
      rw [hv', hq, hy] at hor
      rw [hv', hy] at hfn
      clear hdr hxe hvn hq hv'
      by_cases hbig : two64 ≤ y * 128 ^ k
      · rw [if_pos hbig] at hS
        have HS := Lib.hid hS
        rw [decide_eq_true hbig] at htst
        clear hbig hor hfn hS hy
        go_wp2
        go_ret2
        exact ⟨by rw [HS.out]; rfl, rfl⟩
      · rw [if_neg hbig] at hS
        rw [decide_eq_false hbig] at htst
        have hor' := hor hbig
        have hfn' := hfn hbig
        clear hbig hor hfn hy
        rcases Nat.lt_or_ge x 128 with hx1 | hx1
        · rw [if_pos hx1] at hS
          rcases (show x = 0 ∧ 0 < k ∨ x = 0 ∧ k = 0 ∨ x ≠ 0 from by omega) with ⟨h0, h1⟩ | ⟨h0, h1⟩ | h0
          · rw [if_pos ⟨h0, h1⟩] at hS
            have HS := Lib.hid hS
            have hb0 : ((x : Int) == 0) = true := by rw [beq_iff_eq]; omega
            clear hS h0
            go_wp2
            go_ret2
            exact ⟨by rw [HS.out]; rfl, rfl⟩
          · rw [if_neg (by omega)] at hS
            have HS := Lib.hid hS
            have hb0 : ((x : Int) == 0) = true := by rw [beq_iff_eq]; omega
            clear hS h0
            have h2 : ¬ 0 < k := by omega
            rw [Nat.min_eq_left (by omega : q ≤ 64)] at htst hor'
            clear h1
            go_wp2
            go_ret2
            exact ⟨by rw [HS.out]; rfl, rfl⟩
          · rw [if_neg (by omega)] at hS
            have HS := Lib.hid hS
            have hb0 : ((x : Int) == 0) = false := by rw [beq_eq_false_iff_ne]; omega
            clear hS h0
            go_wp2
            go_ret2
            exact ⟨by rw [HS.out]; rfl, rfl⟩
        · rw [if_neg (by omega)] at hS
          have HS := Lib.hid hS
          clear hS
          go_wp2
          go_round
          case rel => exact ⟨k + 1, v', by omega, by go_num, by go_num, hfn', HS.out, fun hk1 => by rw [← HV.out]; exact HVN.out hk1⟩
          case measure => simp [intOf]; omega
    · have : shortL l = (0, 0) := by rw [H.out.1, List.drop_eq_nil_of_le hge]; rfl
      rw [this]
      go_wp2
      go_ret2
      exact ⟨rfl, rfl⟩
end Go.Proofs.Ytoccmlolgjblcaa
