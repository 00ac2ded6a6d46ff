/- The laws of chapter 2, walked. Conditions: none beyond what the rows say. -/
import Derived.Test.YtcffkfjkjclehaaWalks
import Derived.Lib.SlBytesConst
namespace Go.Proofs.Ytcffkfjkjclehaa
open Go.ChangeShapes Go.WideShapes Go.ChangeAt Go.RowKit
open CrcMath

theorem sum_one (A : Option Addr) (c : Nat) (l : List Nat) (B : Nat) (w : World) (h : Bytes w B A l) (hB : B ≤ w.heap.size) (hl : l.length ≤ 100000) :
    Calls Try.prog 8 #[.slice (some ⟨w.heap.size, 0, none⟩) 1 1] (w.alloc (.cells #[.slice A l.length c] 22)) fun e w' => e = .returned (.int .u32 (sumFrom 0 l : Nat)) ∧ w.alloc (.cells #[.slice A l.length c] 22) = w' := by
  have := sum_any (some ⟨w.heap.size, 0, none⟩) 1 [(A, c, l)] (w.heap.size + 1) (w.alloc (.cells #[.slice A l.length c] 22)) (At.new w [.slice A l.length c] 22 (0, 0))
    (fun x hx => by rw [List.mem_singleton.1 hx]; exact ⟨(h.more (by omega)).alloc hB _ |>.more (by omega), hl⟩) (by simp)
  simpa [allOf] using this

def nine : List Nat := [49, 50, 51, 52, 53, 54, 55, 56, 57]
theorem nine_sum : sumFrom 0 nine = 3808858755 := by decide +kernel
def nineW (w : World) : World := w.alloc (.cells #[.int .u8 49, .int .u8 50, .int .u8 51, .int .u8 52, .int .u8 53, .int .u8 54, .int .u8 55, .int .u8 56, .int .u8 57] 5 (9, 10))
theorem nine_bytes (w : World) : Bytes (nineW w) (w.heap.size + 1) (some ⟨w.heap.size, 0, none⟩) nine := Bytes.new w nine 5 (9, 10) (by unfold Small; decide)
theorem nine_sum1 (w : World) : Calls Try.prog 8 #[.slice (some ⟨w.heap.size + 1, 0, none⟩) 1 1] ((nineW w).alloc (.cells #[.slice (some ⟨w.heap.size, 0, none⟩) 9 9] 22)) fun e w' => e = .returned (.int .u32 3808858755) ∧ (nineW w).alloc (.cells #[.slice (some ⟨w.heap.size, 0, none⟩) 9 9] 22) = w' := by
  have h := sum_one (some ⟨w.heap.size, 0, none⟩) 9 nine _ (nineW w) (nine_bytes w) (by simp [nineW]) (by decide)
  rw [nine_sum] at h
  have hs : (nineW w).heap.size = w.heap.size + 1 := by simp [nineW]
  rw [hs] at h
  exact h
theorem known_any (w : World) : Calls Try.prog 7 #[] w fun e w' => e = .returned (.bool true) ∧ Below w.heap.size w w' := by
  have kc := fun (w : World) (C : Array Value) (n c : Nat) => Lib.run_convert_bytes_const (P := Try.prog) w 22 5 C n c Try.underlying22 Try.underlying5
  go_enter Try.func7, Try.ntmps7
  go_wp2_with fail
  refine (nine_sum1 w).mono ?_
  rintro e w' ⟨rfl, rfl⟩
  go_wp2_with fail
  refine (sum_any none 0 [] 0 _ (At.nil _ _ _) (by simp) (by simp)).mono ?_
  rintro e w' ⟨rfl, rfl⟩
  go_wp2_with fail
  go_ret
  exact ⟨rfl, by unfold nineW; go_grown⟩

theorem nat_u32 {a : Int} (h : (Lit.int .u32 a).wf = true) : ∃ n : Nat, a = n ∧ n < 4294967296 := by
  have := bounds_u32 h
  exact ⟨a.toNat, by omega, by omega⟩
theorem nat_u8 {a : Int} (h : (Lit.int .u8 a).wf = true) : ∃ n : Nat, a = n ∧ n < 256 := by
  have := bounds_u8 h
  exact ⟨a.toNat, by omega, by omega⟩
theorem beq_nat (a b : Nat) : ((a : Int) == (b : Int)) = (a == b) := by
  rw [Bool.eq_iff_iff, beq_iff_eq, beq_iff_eq]; omega

theorem crcTurns_walk (a0 : Int) (a1 : Int) (a2 : Int) (a3 : Int) (w0 : (Lit.int .u32 a0).wf = true) (w1 : (Lit.int .u32 a1).wf = true) (w2 : (Lit.int .u8 a2).wf = true) (w3 : (Lit.int .u8 a3).wf = true) (w : World) :
    Calls Try.prog 6 #[.int .u32 a0, .int .u32 a1, .int .u8 a2, .int .u8 a3] w fun e w' => e = .returned (.bool true) ∧ Below w.heap.size w w' := by
  obtain ⟨a, rfl, ha⟩ := nat_u32 w0
  obtain ⟨b, rfl, hb⟩ := nat_u32 w1
  obtain ⟨x, rfl, hx⟩ := nat_u8 w2
  obtain ⟨y, rfl, hy⟩ := nat_u8 w3
  have h1 : (next a x == next a y) = (x == y) := by
    rw [Bool.eq_iff_iff]
    simp only [beq_iff_eq]
    exact ⟨next_inj_byte hx hy, fun h => by rw [h]⟩
  have h2 : (next a x == next b x) = (a == b) := by
    rw [Bool.eq_iff_iff]
    simp only [beq_iff_eq]
    exact ⟨next_inj_sum ha hb, fun h => by rw [h]⟩
  have g1 : ((next a x : Int) == (next a y : Int)) = ((x : Int) == (y : Int)) := by rw [beq_nat, beq_nat]; exact h1
  have g2 : ((next a x : Int) == (next b x : Int)) = ((a : Int) == (b : Int)) := by rw [beq_nat, beq_nat]; exact h2
  clear w0 w1 w2 w3 h1 h2
  go_enter Try.func6, Try.ntmps6
  go_wp2_with (first
    | (go_at_call 7; refine (known_any _).mono ?_; rintro e w1 ⟨rfl, hb1⟩)
    | (go_at_call 10; refine (next_any _ _ _ (by assumption) (by assumption)).mono ?_; rintro e w' ⟨rfl, rfl⟩))
  go_ret
  exact ⟨rfl, hb1⟩

theorem crcSums_walk (a0 : Option Addr) (len0 cap0 : Nat) (z0 : List Int) (a1 : Int) (a2 : Int) (w : World) (w0 : IsRow .u8 w a0 len0 cap0 z0) (w1 : (Lit.int .u32 a1).wf = true) (w2 : (Lit.int .u8 a2).wf = true) :
    Calls Try.prog 3 #[.slice a0 len0 cap0, .int .u32 a1, .int .u8 a2] w fun e w' => e = .returned (.bool true) ∧ Below w.heap.size w w' := by
  obtain ⟨hlc, l, rfl, hl⟩ := w0.bytes
  obtain ⟨a, rfl, ha⟩ := nat_u32 w1
  obtain ⟨x, rfl, hx⟩ := nat_u8 w2
  clear w0 w1 w2 z0 hlc
  rcases Nat.lt_or_ge 2000 l.length with hlt | hge
  · go_enter Try.func3, Try.ntmps3
    go_wp2
    go_ret
    exact ⟨rfl, Below.refl _ _⟩
  · go_enter Try.func3, Try.ntmps3
    go_wp2_with (first
      | (go_at_call 7; refine (known_any _).mono ?_; rintro e w1 ⟨rfl, hb1⟩; have hl1 := hl.below hb1)
      | (go_at_call 8; refine (sum_one _ _ _ _ _ hl1 hb1.size (by omega)).mono ?_; rintro e w' ⟨rfl, rfl⟩)
      | (go_at_call 9; refine (refsum_any _ _ _ _ _ (hl1.alloc hb1.size _) (by omega)).mono ?_; rintro e w' ⟨rfl, rfl⟩)
      | (go_at_call 10; refine (next_any _ _ _ (by assumption) (by assumption)).mono ?_; rintro e w' ⟨rfl, rfl⟩)
      | (go_at_call 11; refine (refnext_any _ _ _ (by assumption) (by assumption)).mono ?_; rintro e w' ⟨rfl, rfl⟩))
    go_ret
    exact ⟨rfl, hb1.alloc hb1.size _⟩
end Go.Proofs.Ytcffkfjkjclehaa
