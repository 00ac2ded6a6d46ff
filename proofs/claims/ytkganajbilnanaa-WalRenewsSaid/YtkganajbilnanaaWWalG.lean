/- wal: what a log tells of itself. Conditions: the log's box lies there; its numbers are small. -/
import Derived.Test.YtkganajbilnanaaWWalS
namespace Go.Proofs.Ytkganajbilnanaa
open Go.ChangeShapes Go.WideShapes Go.ChangeAt Go.RowKit
open NumMath
set_option linter.unusedVariables false
set_option linter.unusedSimpArgs false
set_option maxRecDepth 20000

/-- a log's ten cells -/
def logV (h : HeadP) (dp : Value) (strips slot : Nat) (sv st : Value) (lasts : Nat) : Array Value :=
  #[.int .u64 (h.stamp : Nat), .int .u64 (h.base : Nat), .int .u64 (h.check : Nat), .int .i64 (h.area : Nat), dp, .int .i64 (strips : Nat), .int .i64 (slot : Nat), sv, st, .int .i64 (lasts : Nat)]
section
variable {h : HeadP} {dp sv st : Value} {strips slot lasts gl : Nat} {w : World}
theorem base_any (k : Blk w gl 75 (logV h dp strips slot sv st lasts)) : Calls Try.prog 21 #[.pointer (some ⟨gl, 0, none⟩)] w fun e w' => e = .returned (.int .u64 (h.base : Nat)) ∧ w = w' := by
  have c1 : w.cell? ⟨gl, 1, none⟩ = some (.int .u64 (h.base : Nat)) := k.cell 1
  clear k
  go_enter Try.func21, Try.ntmps21
  go_wp2
  go_ret
  exact ⟨rfl, rfl⟩
theorem lasts_any (k : Blk w gl 75 (logV h dp strips slot sv st lasts)) (hs : h.base + lasts < 18446744073709551616) : Calls Try.prog 17 #[.pointer (some ⟨gl, 0, none⟩)] w fun e w' => e = .returned (.int .u64 ((h.base + lasts : Nat) : Int)) ∧ Drew w w' := by
  have c1 : w.cell? ⟨gl, 1, none⟩ = some (.int .u64 (h.base : Nat)) := k.cell 1
  have c9 : w.cell? ⟨gl, 9, none⟩ = some (.int .i64 (lasts : Nat)) := k.cell 9
  generalize h.base = b at *
  have v1 : IntKind.u64.wrap (lasts : Int) = (lasts : Int) := by rw [IntKind.wrap_u64]; omega
  obtain ⟨s, hs'⟩ : ∃ s, b + lasts = s := ⟨_, rfl⟩
  have v2 : IntKind.u64.wrap ((b : Int) + (lasts : Int)) = (s : Int) := by rw [IntKind.wrap_u64]; omega
  rw [hs']
  clear k hs hs'
  go_enter Try.func17, Try.ntmps17
  go_wp2_with fail
  go_quiet (fail)
  go_wp2
  go_ret
  exact ⟨rfl, _, rfl⟩
theorem end_any {A : Option Addr} {n c : Nat} (k : Blk w gl 75 (logV h dp strips slot (.slice A n c) st lasts)) (hs : h.base + n < 18446744073709551616) : Calls Try.prog 12 #[.pointer (some ⟨gl, 0, none⟩)] w fun e w' => e = .returned (.int .u64 ((h.base + n : Nat) : Int)) ∧ Drew w w' := by
  have c1 : w.cell? ⟨gl, 1, none⟩ = some (.int .u64 (h.base : Nat)) := k.cell 1
  have c7 : w.cell? ⟨gl, 7, none⟩ = some (.slice A n c) := k.cell 7
  generalize h.base = b at *
  have v1 : IntKind.u64.wrap (n : Int) = (n : Int) := by rw [IntKind.wrap_u64]; omega
  obtain ⟨s, hs'⟩ : ∃ s, b + n = s := ⟨_, rfl⟩
  have v2 : IntKind.u64.wrap ((b : Int) + (n : Int)) = (s : Int) := by rw [IntKind.wrap_u64]; omega
  rw [hs']
  clear k hs hs'
  go_enter Try.func12, Try.ntmps12
  go_wp2_with fail
  go_quiet (fail)
  go_wp2
  go_ret
  exact ⟨rfl, _, rfl⟩
theorem check_any (k : Blk w gl 75 (logV h dp strips slot sv st lasts)) : Calls Try.prog 25 #[.pointer (some ⟨gl, 0, none⟩)] w fun e w' => e = .returned (.int .u64 (h.check : Nat)) ∧ w = w' := by
  have c2 : w.cell? ⟨gl, 2, none⟩ = some (.int .u64 (h.check : Nat)) := k.cell 2
  clear k
  go_enter Try.func25, Try.ntmps25
  go_wp2
  go_ret
  exact ⟨rfl, rfl⟩
theorem room_any (k : Blk w gl 75 (logV h dp strips slot sv st lasts)) (hs : strips ≤ 100000) : Calls Try.prog 31 #[.pointer (some ⟨gl, 0, none⟩)] w fun e w' => e = .returned (.int .i64 ((strips * 127 : Nat) : Int)) ∧ w = w' := by
  have c5 : w.cell? ⟨gl, 5, none⟩ = some (.int .i64 (strips : Nat)) := k.cell 5
  obtain ⟨s, hs'⟩ : ∃ s, strips * 127 = s := ⟨_, rfl⟩
  have v2 : IntKind.i64.wrap ((strips : Int) * 127) = (s : Int) := by rw [IntKind.wrap_i64]; omega
  rw [hs']
  clear k hs hs'
  go_enter Try.func31, Try.ntmps31
  go_wp2
  go_ret
  exact ⟨rfl, rfl⟩
theorem Room_any {A : Option Addr} {n c : Nat} (k : Blk w gl 75 (logV h dp strips slot (.slice A n c) st lasts)) (hs : strips ≤ 100000) (hn : n ≤ strips * 127) : Calls Try.prog 11 #[.pointer (some ⟨gl, 0, none⟩)] w fun e w' => e = .returned (.int .u64 ((strips * 127 - n : Nat) : Int)) ∧ Drew w w' := by
  have c7 : w.cell? ⟨gl, 7, none⟩ = some (.slice A n c) := k.cell 7
  have cr := fun m => room_any (k.drewN m) hs
  obtain ⟨s, hs'⟩ : ∃ s, strips * 127 = s := ⟨_, rfl⟩
  simp only [hs'] at cr
  rw [hs'] at hn ⊢
  obtain ⟨d, hd⟩ : ∃ d, s - n = d := ⟨_, rfl⟩
  have v1 : IntKind.i64.wrap ((s : Int) - (n : Int)) = (d : Int) := by rw [IntKind.wrap_i64]; omega
  have v2 : IntKind.u64.wrap (d : Int) = (d : Int) := by rw [IntKind.wrap_u64]; omega
  rw [hd]
  clear k hs hs' hd hn
  go_enter Try.func11, Try.ntmps11
  go_wp2_with fail
  go_quiet (first | (go_at_call 31; exact Calls.quiet_of_same ((cr _).mono fun _ _ hh => ⟨hh.1, hh.2.symm⟩)) | fail)
  go_wp2
  go_ret
  exact ⟨rfl, _, rfl⟩
theorem first_any (k : Blk w gl 75 (logV h dp strips slot sv st lasts)) (hs : strips ≤ 100000) (a : Nat) (ha : a < 2) : Calls Try.prog 39 #[.pointer (some ⟨gl, 0, none⟩), .int .i64 (a : Nat)] w fun e w' => e = .returned (.int .i64 ((2 + a * strips : Nat) : Int)) ∧ w = w' := by
  have c5 : w.cell? ⟨gl, 5, none⟩ = some (.int .i64 (strips : Nat)) := k.cell 5
  obtain ⟨s, hs'⟩ : ∃ s, 2 + strips = s := ⟨_, rfl⟩
  have v2 : IntKind.i64.wrap (2 + (strips : Int)) = (s : Int) := by rw [IntKind.wrap_i64]; omega
  have HS := Lib.hid hs'
  clear k hs hs'
  have ix0 : ∀ w, (Instr.index 106 (.agg #[.int .i64 2, .int .i64 (s : Nat)]) (.int .i64 0)).run Try.prog w = .ok (.int .i64 2) w := fun _ => by kernel_rfl
  have ix1 : ∀ w, (Instr.index 106 (.agg #[.int .i64 2, .int .i64 (s : Nat)]) (.int .i64 1)).run Try.prog w = .ok (.int .i64 (s : Nat)) w := fun _ => by kernel_rfl
  rcases (show a = 0 ∨ a = 1 by omega) with rfl | rfl
  · go_enter Try.func39, Try.ntmps39
    go_wp2
    go_ret
    exact ⟨by rw [Nat.zero_mul]; rfl, rfl⟩
  · go_enter Try.func39, Try.ntmps39
    go_wp2
    go_ret
    exact ⟨by rw [Nat.one_mul, HS.out]; rfl, rfl⟩
end
end Go.Proofs.Ytkganajbilnanaa
