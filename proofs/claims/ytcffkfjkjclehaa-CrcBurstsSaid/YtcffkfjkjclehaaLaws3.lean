/- The law of chapter 2 on bursts, walked. Conditions: none beyond what the rows say. -/
import Derived.Test.YtcffkfjkjclehaaLaws2
import Derived.Test.YtcffkfjkjclehaaMath2
namespace Go.Proofs.Ytcffkfjkjclehaa
open Go.ChangeShapes Go.WideShapes Go.ChangeAt Go.RowKit
open CrcMath

theorem two_pow_u8 (b m : Nat) (hb : b < 256) (hm : m < 8) : bits .xor .u8 (b : Int) (2 ^ m % 256) = ((b ^^^ 2 ^ m : Nat) : Int) := by
  have h : (2 : Int) ^ m % 256 = ((2 ^ m : Nat) : Int) := by
    have hp := pow_lt_256 hm
    have : ((2 ^ m : Nat) : Int) = (2 : Int) ^ m := Int.natCast_pow 2 m
    rw [← this]
    exact Int.emod_eq_of_lt (Int.natCast_nonneg _) (by have := Int.ofNat_lt.2 hp; exact this)
  rw [h, u8_xor_nat _ _ hb (pow_lt_256 hm)]
theorem bit_of (r k : Nat) : ((((r : Int) / 2 ^ k).tmod 2) == 1) = decide (r / 2 ^ k % 2 = 1) := by
  have h1 : (r : Int) / 2 ^ k = ((r / 2 ^ k : Nat) : Int) := by rw [Int.natCast_ediv, Int.natCast_pow]; rfl
  rw [h1]
  generalize r / 2 ^ k = y
  rw [Int.tmod_eq_emod_of_nonneg (by omega), Bool.eq_iff_iff, beq_iff_eq, decide_eq_true_iff]
  omega

set_option maxHeartbeats 400000 in
theorem crcBursts_walk (a0 : Option Addr) (len0 cap0 : Nat) (z0 : List Int) (a1 : Int) (a2 : Int) (w : World) (w0 : IsRow .u8 w a0 len0 cap0 z0) (w1 : (Lit.int .i64 a1).wf = true) (w2 : (Lit.int .u32 a2).wf = true) :
    Calls Try.prog 5 #[.slice a0 len0 cap0, .int .i64 a1, .int .u32 a2] w fun e w' => e = .returned (.bool true) ∧ Below w.heap.size w w' := by
  obtain ⟨hlc, l, rfl, hl⟩ := w0.bytes
  obtain ⟨r, rfl, hr⟩ := nat_u32 w2
  have hat := bounds_i64 w1
  clear w0 w1 w2 z0 hlc
  obtain ⟨i0, hi0, hz0, hz1, hz2⟩ := info_parts u8_info
  rcases Nat.lt_or_ge 2000 l.length with hlt | hge
  · go_enter Try.func5, Try.ntmps5
    go_wp2_with (go_at_call 7; refine (known_any _).mono ?_; rintro e w1 ⟨rfl, hb1⟩)
    go_ret
    exact ⟨rfl, hb1⟩
  rcases Nat.eq_zero_or_pos l.length with h0 | hpos
  · have h0' : ((l.length : Int) == 0) = true := by rw [h0]; rfl
    clear h0
    go_enter Try.func5, Try.ntmps5
    go_wp2_with (go_at_call 7; refine (known_any _).mono ?_; rintro e w1 ⟨rfl, hb1⟩)
    go_ret
    exact ⟨rfl, hb1⟩
  have h0' : ((l.length : Int) == 0) = false := by rw [beq_eq_false_iff_ne]; omega
  obtain ⟨q, hmx, hq⟩ : ∃ q : Nat, (if a1 < 0 then (0 : Int) else a1) = (q : Int) ∧ q ≤ 9223372036854775807 := ⟨(if a1 < 0 then (0 : Int) else a1).toNat, by split <;> omega, by split <;> omega⟩
  obtain ⟨f, hf, hfl⟩ : ∃ f : Nat, (q : Int) % (8 * (l.length : Int)) = (f : Int) ∧ f < 8 * l.length := ⟨q % (8 * l.length), by rw [Int.natCast_emod, Int.natCast_mul]; rfl, Nat.mod_lt _ (by omega)⟩
  go_enter Try.func5, Try.ntmps5
  go_wp2_with (first
    | (go_at_call 7; refine (known_any _).mono ?_; rintro e w1 ⟨rfl, hb1⟩)
    | (at_builtin; refine wpList_append_at rfl (.tmp 31) (.tmp 32) 22 rfl w.heap.size 5 i0 _ 1 Try.underlying22 hi0 hz0 hz1 hz2 rfl (.slice none 0 0) 0 [] rfl (World.ownsRow_nil _ _ _ _) w.heap.size a0 l.length cap0 (l.map byteV) rfl (by simp) (hl.below hb1).1 (bytes_oneCell _) (by unfold maxLen; omega) (by omega) hb1.size ?_; intro A1 c1 w2 hown1 hg1 hat1; simp only [Nat.zero_add, List.nil_append] at hown1; have hb2 : Below w.heap.size w w2 := hb1.grown hg1 hb1.size (by simp [Value.ownBlock])))
  clear hmx hf hq hat
  obtain ⟨g, rfl, hB1, hB2⟩ := own_pos hown1 hpos
  go_loopw [9, 10] (fun x i wr => ∃ k : Nat, k ≤ 32 ∧ f + k ≤ 8 * l.length ∧ i = .int .i64 k ∧ x = .bool (decide (r % 2 ^ k ≠ 0)) ∧ wr.ownsRow w.heap.size 5 1 (.slice (some ⟨g, 0, none⟩) l.length c1) l.length ((over l (run r f k)).map byteV) ∧ Below w.heap.size w wr) (fun _ i _ => 32 - (intOf i).toNat)
  case atStart => exact ⟨0, by omega, by omega, rfl, by simp [Nat.mod_one], by rw [run_zero, over_zero l hl.2]; exact hown1, hb2⟩
  case round =>
    clear hown1 hb2
    obtain ⟨k, hk, hfk, rfl, rfl, hown, hbw⟩ := hrel
    have HR := Lib.hid (fun (h : f + k ≤ 8 * l.length) => run_tells l r f k h hk)
    have HS : Small (over l (run r f k)) := over_small l _ hl.2
    rcases (show (k < 32 ∧ f + k < 8 * l.length) ∨ (k < 32 ∧ 8 * l.length ≤ f + k) ∨ 32 ≤ k from by omega) with ⟨hk1, hk2⟩ | hex
    · skip
      · by_cases hbit : r / 2 ^ k % 2 = 1
        · have hlen : (f + k) / 8 < (over l (run r f k)).length := by rw [over_length]; omega
          obtain ⟨b, hb⟩ : ∃ b, (over l (run r f k)).getD ((f + k) / 8) 0 = b := ⟨_, rfl⟩
          have hb256 : b < 256 := by
            rw [← hb, List.getD_eq_getElem?_getD, List.getElem?_eq_getElem hlen]
            exact HS _ (List.getElem_mem hlen)
          have hc : wr.cell? ⟨g, (f + k) / 8, none⟩ = some (.int .u8 (b : Int)) := by
            rw [hown.cellAt _ (by omega), List.getElem?_map, ← hb, List.getD_eq_getElem?_getD, List.getElem?_eq_getElem hlen]
            rfl
          have hz := hown.frozenAt ((f + k) / 8)
          have HB := Lib.hid hb
          have hbit1 : ((((r : Int) / 2 ^ k).tmod 2) == 1) = true := by rw [bit_of]; exact decide_eq_true hbit
          have HY := Lib.hid (run_yes r f k hbit)
          clear hb hbit
          go_wp2
          have hst := hown.stored ((f + k) / 8) (byteV (b ^^^ 2 ^ ((f + k) % 8)))
          have hx := two_pow_u8 b ((f + k) % 8) hb256 (Nat.mod_lt _ (by omega))
          have hov := over_bit l (run r f k) (f + k) hk2
          rw [HB.out] at hov
          go_roundw
          case rel =>
            refine ⟨k + 1, by omega, by omega, by go_num, ?_, ?_, ?_⟩
            · rw [decide_eq_true HY.out.2]
            · rw [hx, HY.out.1, hov, List.map_set]
              exact hst.1
            · exact hbw.setCell (by exact hB1) _
          case measure => simp [intOf]; omega
        · have hbit1 : ((((r : Int) / 2 ^ k).tmod 2) == 1) = false := by rw [bit_of]; exact decide_eq_false hbit
          have HY := Lib.hid (run_no r f k hbit)
          clear hbit
          go_wp2
          go_roundw
          case rel =>
            refine ⟨k + 1, by omega, by omega, by go_num, ?_, ?_, hbw⟩
            · rw [HY.out.2]; simp
            · rw [HY.out.1]; exact hown
          case measure => simp [intOf]; omega
    · have hbo : Bytes wr wr.heap.size (some ⟨g, 0, none⟩) (over l (run r f k)) := ⟨At.own hown, HS⟩
      have hlo := hl.below hbw
      have hso := hbw.size
      have hT : ((sumFrom 0 l : Int) == (sumFrom 0 (over l (run r f k)) : Int)) = decide (r % 2 ^ k = 0) := by
        rw [beq_nat, Bool.eq_iff_iff, beq_iff_eq, decide_eq_true_iff]
        exact HR.out hfk
      have h2 := fun (W : World) (hb : Below wr.heap.size wr W) => sum_one _ c1 _ _ W (hbo.below hb) hb.size (by rw [over_length]; omega)
      rw [over_length] at h2
      have H2 := Lib.hid h2
      clear h2 hbo hown HS HR hg1 hat1
      rcases hex with ⟨hk1, hk2⟩ | hk1
      all_goals
        go_wp2_with fail
        refine (sum_one _ _ _ _ wr hlo hso (by omega)).mono ?_
        rintro e w5 ⟨rfl, hw5⟩
        have hb5 : Below wr.heap.size wr w5 := by rw [← hw5]; exact (Below.refl _ _).alloc (Nat.le_refl _) _
        clear hw5
        go_wp2_with fail
        refine (H2.out w5 hb5).mono ?_
        rintro e w6 ⟨rfl, hw6⟩
        have hb6 : Below w5.heap.size w5 w6 := by rw [← hw6]; exact (Below.refl _ _).alloc (Nat.le_refl _) _
        clear hw6
        go_wp2_with fail
        go_ret
        refine ⟨ret_bool (a := (((sumFrom 0 l : Int) != (sumFrom 0 (over l (run r f k)) : Int)) == !decide (r % 2 ^ k = 0))) (by rw [bne, hT]; cases decide (r % 2 ^ k = 0) <;> rfl), hbw.trans ((hb5.mono hso).trans (hb6.mono (by have := hb5.size; omega)))⟩
end Go.Proofs.Ytcffkfjkjclehaa
