/- The contracts of chapter 1's functions that lay numbers as bytes and read them, on either side. Conditions: numbers fit their kinds; what is handed in reads as bytes. -/
import Derived.Test.YthbaoljghofkoaaRef
import Derived.Test.YthbaoljghofkoaaMath
import Derived.Lib.Hide
import Derived.Laws.BitsAllLaws
import Derived.Laws.OwnMore
import Derived.Deep.QuietTactic
import Derived.BigQuiet
namespace Go.Proofs.Ythbaoljghofkoaa
open Go.ChangeShapes Go.WideShapes Go.ChangeAt Go.RowKit
open NumMath
set_option linter.unusedVariables false
set_option linter.unusedSimpArgs false

def pwN (n : Nat) : Nat := 2 ^ n % 18446744073709551616
theorem pwN_lt (n : Nat) : pwN n < 18446744073709551616 := Nat.mod_lt _ (by omega)
theorem power_any (n : Nat) (w : World) (h1 : n < 18446744073709551616) :
    Calls Try.prog 54 #[.int .u64 n] w fun e w' => e = .returned (.int .u64 (pwN n : Nat)) ∧ w = w' := by
  go_enter Try.func54, Try.ntmps54
  go_wp2
  go_loop [3, 4] (fun x i => ∃ k p : Nat, k ≤ n ∧ k ≤ 64 ∧ p < 18446744073709551616 ∧ i = .int .u64 k ∧ x = .int .u64 p ∧ Hid (p = pwN k)) (fun _ i => 65 - (intOf i).toNat)
  case atStart => exact ⟨0, 1, by omega, by omega, by omega, rfl, rfl, rfl⟩
  case round =>
    obtain ⟨k, p, hk, hk2, hp, rfl, rfl, H⟩ := hrel
    rcases (show (k < n ∧ k < 64) ∨ (k < n ∧ k = 64) ∨ k = n from by omega) with ⟨hk3, hk4⟩ | ⟨hk3, hk4⟩ | hk3
    · have hpos : 0 < p := by
        rw [H.out, pwN, pow_mod_small hk4]
        exact Nat.two_pow_pos k
      go_wp2
      go_round
      case rel =>
        refine ⟨k + 1, pwN (k + 1), by omega, by omega, pwN_lt _, by go_num, ?_, rfl⟩
        have h := pow_dbl k
        have e : p = pwN k := H.out
        rw [IntKind.wrap_u64, e]
        congr 1
        unfold pwN
        omega
      case measure => simp [intOf]; omega
    · subst hk4
      obtain rfl : p = 0 := by rw [H.out]; rfl
      go_wp2
      go_ret
      exact ⟨ret_nat (by rw [pwN, pow_mod_big (by omega)]), rfl⟩
    · subst hk3
      go_wp2
      go_ret
      exact ⟨ret_nat H.out, rfl⟩

def putB (n : Nat) (k : Int) : List Nat := if 1 ≤ k ∧ k ≤ 8 then putF k.toNat n else []
theorem putB_small (n : Nat) (k : Int) : Small (putB n k) := by
  unfold putB
  split
  · exact putF_small _ _
  · intro x hx; cases hx
theorem ret_none (T : TypeId) (w : World) : RetBytes T [] w (.returned (.slice none 0 0)) w := ⟨none, 0, rfl, World.ownsRow_nil _ _ _ _, Below.refl _ _, fun x hx => by cases hx⟩

/-- the row behind k rounds of Put -/
def half (k j n : Nat) : List Nat := putF j n ++ List.replicate (k - j) 0
theorem half_zero (k n : Nat) : half k 0 n = List.replicate k 0 := by simp [half, putF]
theorem half_all (k n : Nat) : half k k n = putF k n := by simp [half]
theorem half_length {k j : Nat} (n : Nat) (h : j ≤ k) : (half k j n).length = k := by simp [half, putF_length]; omega
theorem half_next {k j : Nat} (n : Nat) (h : j < k) : (half k j n).set j (n / 256 ^ j % 256) = half k (j + 1) n := by
  unfold half
  rw [putF_snoc, show k - j = (k - (j + 1)) + 1 from by omega, List.replicate_succ, List.set_append_right _ _ (by rw [putF_length]; omega), putF_length, Nat.sub_self]
  simp

theorem put_any (n : Nat) (k : Int) (w : World) (h1 : n < 18446744073709551616) (h2 : -9223372036854775808 ≤ k) (h3 : k ≤ 9223372036854775807) :
    Calls Try.prog 26 #[.int .u64 n, .int .i64 k] w (RetBytes 5 (putB n k) w) := by
  obtain ⟨i0, hi0, hz0, hz1, hz2⟩ := info_parts u8_info
  rcases (show k < 1 ∨ (1 ≤ k ∧ k ≤ 8) ∨ 8 < k from by omega) with hk | hk | hk
  · have e : putB n k = [] := by unfold putB; rw [if_neg (by omega)]
    rw [e]
    clear e
    go_enter Try.func26, Try.ntmps26
    go_wp2
    go_ret
    exact ret_none 5 w
  · obtain ⟨m, rfl⟩ : ∃ m : Nat, k = m := ⟨k.toNat, by omega⟩
    have e : putB n m = putF m n := by unfold putB; rw [if_pos hk]; rfl
    rw [e]
    have hm1 : 1 ≤ m := by omega
    have hm2 : m ≤ 8 := by omega
    clear e hk h2 h3
    go_enter Try.func26, Try.ntmps26
    go_wp2_with (at_make; refine wpList_make_full _ rfl _ _ 25 rfl w.heap.size 5 i0 _ 1 Try.underlying25 hi0 hz0 hz1 .i64 .i64 _ _ m rfl rfl rfl rfl (by rw [hz2]; omega) (by unfold maxLen; omega) (Nat.le_refl _) ?_; intro w1 hown1 hg1)
    have hb1 : Below w.heap.size w w1 := (Below.refl _ _).grown hg1 (Nat.le_refl _) (by simp)
    obtain ⟨g, hgg⟩ : ∃ g, g = w.heap.size := ⟨_, rfl⟩
    have hown2 : w1.ownsRow w.heap.size 5 1 (.slice (some ⟨w.heap.size, 0, none⟩) m m) m ((half m 0 n).map byteV) := by
      have e : (madeCells (Value.int .u8 0).cells (m * 1)).toList = (half m 0 n).map byteV := by
        rw [Nat.mul_one, half_zero, List.map_replicate]
        exact toList_madeCells_one _ m
      rw [← e]
      exact hown1
    clear hown1 hg1 hgg
    go_loopw [17] (fun i wr => ∃ j : Nat, j ≤ m ∧ i = .int .i64 j ∧ wr.ownsRow w.heap.size 5 1 (.slice (some ⟨w.heap.size, 0, none⟩) m m) m ((half m j n).map byteV) ∧ Below w.heap.size w wr) (fun i _ => m - (intOf i).toNat)
    case atStart => exact ⟨0, by omega, rfl, hown2, hb1⟩
    case round =>
      clear hown2 hb1
      obtain ⟨j, hj, rfl, hown, hb⟩ := hrel
      rcases Nat.lt_or_ge j m with hlt | hge
      · have hz := hown.frozenAt j
        obtain ⟨v0, hv0⟩ : ∃ v0, wr.cell? ⟨w.heap.size, j, none⟩ = some v0 := by
          have := hown.cellAt j (by omega)
          rw [List.getElem?_eq_getElem (by rw [List.length_map, half_length n hj]; exact hlt)] at this
          exact ⟨_, this⟩
        have hst := Lib.hid (hown.stored j (byteV (n / 256 ^ j % 256)))
        have hf : (n : Int) / 2 ^ (8 * j) % 256 = ((n / 256 ^ j % 256 : Nat) : Int) := by
          rw [pow256, Int.natCast_emod, Int.natCast_ediv, Int.natCast_pow]; rfl
        have HF := Lib.hid hf
        clear hf
        go_wp2
        go_roundw
        case rel =>
          refine ⟨j + 1, by omega, by go_num, ?_, ?_⟩
          · rw [← half_next n hlt, List.map_set, HF.out]
            exact hst.out.1
          · exact hb.setCell (by exact Nat.le_refl _) _
        case measure => simp [intOf]; omega
      · obtain rfl : j = m := by omega
        rw [half_all] at hown
        go_wp2
        go_ret
        exact ⟨some ⟨w.heap.size, 0, none⟩, j, ret_slice (putF_length j n).symm, by rw [putF_length]; exact hown, hb, putF_small _ _⟩
  · have e : putB n k = [] := by unfold putB; rw [if_neg (by omega)]
    rw [e]
    clear e
    go_enter Try.func26, Try.ntmps26
    go_wp2
    go_ret
    exact ret_none 5 w

theorem one_new (w : World) (x : Nat) : At (w.alloc (.cells #[.int .u8 (x : Int)] 5)) (w.heap.size + 1) (some ⟨w.heap.size, 0, none⟩) [byteV x] := At.new w [byteV x] 5 (0, 0)
theorem refput_any (n : Nat) (k : Int) (w : World) (h1 : n < 18446744073709551616) (h2 : -9223372036854775808 ≤ k) (h3 : k ≤ 9223372036854775807) :
    Calls Try.prog 29 #[.int .u64 n, .int .i64 k] w (RetBytes 5 (putB n k) w) := by
  obtain ⟨i0, hi0, hz0, hz1, hz2⟩ := info_parts u8_info
  rcases (show k < 1 ∨ (1 ≤ k ∧ k ≤ 8) ∨ 8 < k from by omega) with hk | hk | hk
  · have e : putB n k = [] := by unfold putB; rw [if_neg (by omega)]
    rw [e]
    clear e
    go_enter Try.func29, Try.ntmps29
    go_wp2
    go_ret
    exact ret_none 5 w
  · obtain ⟨m, rfl⟩ : ∃ m : Nat, k = m := ⟨k.toNat, by omega⟩
    have e : putB n m = putF m n := by unfold putB; rw [if_pos hk]; rfl
    rw [e]
    have hm1 : 1 ≤ m := by omega
    have hm2 : m ≤ 8 := by omega
    clear e hk h2 h3
    go_enter Try.func29, Try.ntmps29
    go_wp2
    go_loopw [0, 5, 6] (fun q v i wr => ∃ (j d : Nat) (A : Option Addr) (c : Nat), j ≤ m ∧ i = .int .i64 j ∧ q = .int .u64 d ∧ d < 18446744073709551616 ∧ v = .slice A j c ∧ wr.ownsRow w.heap.size 5 1 (.slice A j c) j ((putF j n).map byteV) ∧ Below w.heap.size w wr ∧ Hid (d = n / 256 ^ j)) (fun _ _ i _ => m - (intOf i).toNat)
    case atStart => exact ⟨0, n, none, 0, by omega, rfl, rfl, h1, rfl, World.ownsRow_nil _ _ _ _, Below.refl _ _, by show n = n / 256 ^ 0; simp⟩
    case round =>
      obtain ⟨j, d, A, c, hj, rfl, rfl, hd, rfl, hown, hb, H⟩ := hrel
      rcases Nat.lt_or_ge j m with hlt | hge
      · obtain ⟨x, hx⟩ : ∃ x, d % 256 = x := ⟨_, rfl⟩
        have hxi : (d : Int) % 256 = (x : Int) := by omega
        have HX := Lib.hid hx
        have hsz := hb.size
        clear hx
        go_wp2_with (at_builtin; refine wpList_append_at rfl (.tmp 19) (.tmp 23) 25 rfl w.heap.size 5 i0 _ 1 Try.underlying25 hi0 hz0 hz1 hz2 rfl (.slice A j c) j ((putF j n).map byteV) rfl (hown.alloc _) (wr.heap.size + 1) (some ⟨wr.heap.size, 0, none⟩) 1 1 [byteV x] rfl rfl (one_new wr x) (bytes_oneCell [x]) (by unfold maxLen; omega) (by omega) (by rw [World.size_alloc]; omega) ?_; intro A1 c1 w1 hown1 hg1 hat1)
        go_roundw
        case rel =>
          refine ⟨j + 1, d / 256, A1, c1, by omega, by go_num, by go_num, by omega, by go_num, ?_, ?_, ?_⟩
          · rw [putF_snoc, ← H.out, HX.out, List.map_append]
            exact hown1
          · exact below_own (hb.alloc hsz _) hg1 (hown.alloc _) (Nat.le_refl _) (by rw [World.size_alloc]; omega)
          · show d / 256 = n / 256 ^ (j + 1)
            rw [H.out, Nat.div_div_eq_div_mul, Nat.pow_succ]
        case measure => simp [intOf]; omega
      · obtain rfl : j = m := by omega
        go_wp2
        go_ret
        exact ⟨A, c, ret_slice (putF_length j n).symm, by rw [putF_length]; exact hown, hb, putF_small _ _⟩
  · have e : putB n k = [] := by unfold putB; rw [if_neg (by omega)]
    rw [e]
    clear e
    go_enter Try.func29, Try.ntmps29
    go_wp2
    go_ret
    exact ret_none 5 w

theorem get_step (l : List Nat) (k c : Nat) (hs : Small l) (hk : k < l.length) (hk8 : k < 8) (hc : l[k] = c) :
    bits .or .u64 ((getL (l.take k) : Nat) : Int) (IntKind.u64.wrap ((c : Int) * 2 ^ (8 * k))) = ((getL (l.take (k + 1)) : Nat) : Int) := by
  have hlt := getL_lt (l.take k) (fun x hx => hs x (List.mem_of_mem_take hx))
  have hlen : (l.take k).length = k := by simp; omega
  rw [hlen, pow256] at hlt
  have hcs : c < 256 := by rw [← hc]; exact hs _ (List.getElem_mem hk)
  have e1 : (c : Int) * 2 ^ (8 * k) = ((c * 2 ^ (8 * k) : Nat) : Int) := by rw [Int.natCast_mul, Int.natCast_pow]; rfl
  have hp : 256 * 2 ^ (8 * k) ≤ 18446744073709551616 := by
    have : 2 ^ (8 * k + 8) ≤ 2 ^ 64 := Nat.pow_le_pow_right (by omega) (by omega)
    rw [Nat.pow_add] at this
    omega
  have hb : c * 2 ^ (8 * k) < 18446744073709551616 := by
    have : c * 2 ^ (8 * k) ≤ 255 * 2 ^ (8 * k) := Nat.mul_le_mul_right _ (by omega)
    have : 0 < 2 ^ (8 * k) := Nat.two_pow_pos _
    omega
  have e2 : IntKind.u64.wrap ((c * 2 ^ (8 * k) : Nat) : Int) = ((c * 2 ^ (8 * k) : Nat) : Int) := by rw [IntKind.wrap_u64]; omega
  have e3 : getL (l.take (k + 1)) = getL (l.take k) + c * 2 ^ (8 * k) := by
    rw [List.take_succ_eq_append_getElem hk, getL_snoc, hlen, pow256, hc]
  rw [e1, e2, u64_or_nat _ _ (by omega) hb, e3, Nat.or_comm, nat_join (8 * k) _ _ (Nat.mul_mod_left _ _) hlt, Nat.add_comm]
theorem take_min (l : List Nat) : l.take (min l.length 8) = l.take 8 := by
  rcases Nat.le_total l.length 8 with h | h
  · rw [Nat.min_eq_left h, List.take_length, List.take_of_length_le h]
  · rw [Nat.min_eq_right h]
theorem get8_lt (l : List Nat) (k : Nat) (hs : Small l) (hk : k ≤ 8) : getL (l.take k) < 18446744073709551616 := by
  have h := getL_lt (l.take k) (fun x hx => hs x (List.mem_of_mem_take hx))
  have : 256 ^ (l.take k).length ≤ 256 ^ 8 := Nat.pow_le_pow_right (by omega) (by simp; omega)
  omega
theorem get_any (A : Option Addr) (c : Nat) (l : List Nat) (B : Nat) (w : World) (h : Bytes w B A l) (hl : l.length ≤ 100000) (hlc : l.length ≤ c) :
    Calls Try.prog 33 #[.slice A l.length c] w fun e w' => e = .returned (.int .u64 (getL (l.take 8) : Nat)) ∧ w = w' := by
  obtain ⟨q, hmn, hq1, hq2, hq3⟩ : ∃ q : Nat, (if 8 < (l.length : Int) then (8 : Int) else (l.length : Int)) = (q : Int) ∧ q ≤ 8 ∧ q ≤ l.length ∧ q = min l.length 8 := ⟨min l.length 8, by split <;> omega, by omega, by omega, rfl⟩
  have HQ := Lib.hid hq3
  clear hq3
  go_enter Try.func33, Try.ntmps33
  go_wp2
  clear hmn
  go_loop [3, 12] (fun x i => ∃ k v : Nat, k ≤ q ∧ i = .int .i64 k ∧ x = .int .u64 v ∧ v < 18446744073709551616 ∧ Hid (v = getL (l.take k))) (fun _ i => q - (intOf i).toNat)
  case atStart => exact ⟨0, 0, by omega, rfl, rfl, by omega, rfl⟩
  case round =>
    obtain ⟨k, v, hk, rfl, rfl, hv, H⟩ := hrel
    rcases Nat.lt_or_ge k q with hlt | hge
    · obtain ⟨b, o, rfl, hb, hc, hx⟩ := h.at_ (k := k) (by omega)
      have hst := get_step l k l[k] h.2 (by omega) (by omega) rfl
      rw [← H.out] at hst
      obtain ⟨x, hxe⟩ : ∃ x, l[k] = x := ⟨_, rfl⟩
      rw [hxe] at hc hx hst
      obtain ⟨v', hv'⟩ : ∃ v', getL (l.take (k + 1)) = v' := ⟨_, rfl⟩
      have hv2 := get8_lt l (k + 1) h.2 (by omega)
      have HV := Lib.hid hv'
      rw [hv'] at hst hv2
      clear hxe hv'
      go_wp2
      go_round
      case rel => exact ⟨k + 1, v', by omega, by go_num, by go_num, hv2, HV.out.symm⟩
      case measure => simp [intOf]; omega
    · obtain rfl : k = q := by omega
      go_wp2
      go_ret
      exact ⟨ret_nat (by rw [H.out, HQ.out, take_min]), rfl⟩

theorem refget_step (l : List Nat) (k c v p : Nat) (hs : Small l) (hk : k < l.length) (hk8 : k < 8) (hc : l[k] = c) (hv : v = getL (l.take k)) (hp : p = pwN (8 * k)) :
    IntKind.u64.wrap ((v : Int) + IntKind.u64.wrap ((c : Int) * (p : Int))) = ((getL (l.take (k + 1)) : Nat) : Int) := by
  have hlen : (l.take k).length = k := by simp; omega
  have hlt := get8_lt l (k + 1) hs (by omega)
  have e3 : getL (l.take (k + 1)) = v + c * 2 ^ (8 * k) := by
    rw [List.take_succ_eq_append_getElem hk, getL_snoc, hlen, pow256, hc, hv]
  have e4 : p = 2 ^ (8 * k) := by rw [hp]; exact pow_mod_small (by omega)
  rw [e3] at hlt ⊢
  rw [e4, ← Int.natCast_mul, IntKind.wrap_u64, IntKind.wrap_u64]
  omega
theorem refget_any (A : Option Addr) (c : Nat) (l : List Nat) (B : Nat) (w : World) (h : Bytes w B A l) (hl : l.length ≤ 100000) :
    Calls Try.prog 50 #[.slice A l.length c] w fun e w' => e = .returned (.int .u64 (getL (l.take 8) : Nat)) ∧ Drew w w' := by
  go_enter Try.func50, Try.ntmps50
  go_wp2
  go_loopw [3, 4] (fun x i wr => ∃ k v : Nat, k ≤ 8 ∧ k ≤ l.length ∧ i = .int .i64 k ∧ x = .int .u64 v ∧ v < 18446744073709551616 ∧ Hid (v = getL (l.take k)) ∧ Drew w wr) (fun _ i _ => 8 - (intOf i).toNat)
  case atStart => exact ⟨0, 0, by omega, by omega, rfl, rfl, by omega, rfl, Drew.refl w⟩
  case round =>
    obtain ⟨k, v, hk, hk2, rfl, rfl, hv, H, hd⟩ := hrel
    rcases (show (k < 8 ∧ k < l.length) ∨ (k = 8 ∧ k < l.length) ∨ k = l.length from by omega) with ⟨hlt, hlt2⟩ | ⟨hlt, hlt2⟩ | hge
    · obtain ⟨b, o, rfl, hb, hc, hx⟩ := (h.below (hd.below B)).at_ (k := k) (by omega)
      have hst := refget_step l k l[k] v (pwN (8 * k)) h.2 hlt2 hlt rfl H.out rfl
      have hv2 := get8_lt l (k + 1) h.2 (by omega)
      obtain ⟨v', hv'⟩ : ∃ v', getL (l.take (k + 1)) = v' := ⟨_, rfl⟩
      obtain ⟨x, hxe⟩ : ∃ x, l[k] = x := ⟨_, rfl⟩
      obtain ⟨q, hqe⟩ : ∃ q, 8 * k = q := ⟨_, rfl⟩
      have HV := Lib.hid hv'
      rw [hv', hxe, hqe] at hst
      rw [hv'] at hv2
      rw [hxe] at hc hx
      have hq : 8 * (k : Int) = (q : Int) := by omega
      have hq2 : q < 18446744073709551616 := by omega
      clear hxe hv' hqe
      go_wp2_with fail
      go_quiet ((go_at_call 54; exact Calls.quiet_of_same ((power_any _ _ hq2).mono fun _ _ hh => ⟨hh.1, hh.2.symm⟩)))
      go_wp2
      go_roundw
      case rel => exact ⟨k + 1, v', by omega, by omega, by go_num, by go_num, hv2, HV.out.symm, hd.more _⟩
      case measure => simp [intOf]; omega
    · subst hlt
      go_wp2
      go_ret
      exact ⟨ret_nat H.out, hd⟩
    · go_wp2
      go_ret
      exact ⟨ret_nat (by rw [H.out, List.take_of_length_le (by omega), List.take_of_length_le (by omega)]), hd⟩
end Go.Proofs.Ythbaoljghofkoaa
