/- slices.Clone of bytes: a copy of its own. Conditions: not longer than 1000000. -/
import Derived.Test.YthbaoljghofkoaaRef
import Derived.Test.YthbaoljghofkoaaFrames
import Derived.Test.YthbaoljghofkoaaBrows
import Derived.Test.YthbaoljghofkoaaSteps
import Derived.Lib.LazyBuf
namespace Go.Proofs.Ythbaoljghofkoaa
open Go.ChangeShapes Go.WideShapes Go.ChangeAt Go.RowKit
set_option linter.unusedVariables false
set_option linter.unusedSimpArgs false

theorem own_empty (w : World) (t : TypeId) : (w.alloc (.cells #[] t)).ownsRow w.heap.size t 1 (.slice (some ⟨w.heap.size, 0, none⟩) 0 0) 0 [] :=
  ⟨rfl, .inr ⟨w.heap.size, 0, #[], rfl, Nat.le_refl _, heap_alloc_new w _, Nat.le_refl _, Nat.zero_le _, rfl, rfl⟩⟩
set_option maxHeartbeats 1000000 in
theorem clone_any (A : Option Addr) (c : Nat) (l : List Nat) (B : Nat) (w : World) (h : Bytes w B A l) (hB : B ≤ w.heap.size) (hl : l.length ≤ 1000000) :
    Calls Try.prog 37 #[.slice A l.length c] w (RetBytes 5 l w) := by
  obtain ⟨i0, hi0, hz0, hz1, hz2⟩ := info_parts u8_info
  cases A with
  | none =>
    have e : l = [] := by
      rcases Nat.eq_zero_or_pos l.length with q | q
      · exact List.length_eq_zero_iff.1 q
      · obtain ⟨b, o, e, _⟩ := h.at_ q; cases e
    subst e
    have hq := fun W => run_eql_slice_nil (P := Try.prog) W 25 5 none 0 c Try.underlying25
    go_enter Try.func37, Try.ntmps37
    go_wp2
    go_ret
    exact ⟨none, 0, rfl, World.ownsRow_nil _ _ _ _, Below.refl _ _, fun x hx => by cases hx⟩
  | some a =>
    have hq := fun W => run_eql_slice_nil (P := Try.prog) W 25 5 (some a) l.length c Try.underlying25
    have h2 : Bytes (w.alloc (.cells #[] 5)) B (some a) l := h.alloc hB _
    have ho := own_empty w 5
    have hb0 : Below w.heap.size w (w.alloc (.cells #[] 5)) := (Below.refl _ _).alloc (Nat.le_refl _) _
    go_enter Try.func37, Try.ntmps37
    go_wp2_with (at_builtin; refine wpList_append_at2 rfl _ _ 25 25 rfl w.heap.size 5 i0 _ 1 Try.underlying25 Try.underlying25 hi0 hz0 hz1 hz2 rfl (.slice (some ⟨w.heap.size, 0, none⟩) 0 0) 0 [] rfl ho B (some a) l.length c (l.map byteV) rfl (by rw [List.length_map]) h2.1 (bytes_oneCell _) (by unfold maxLen; omega) (by omega) hb0.size ?_; intro A1 c1 w1 hown hg hat)
    go_ret
    refine ⟨A1, c1, ret_slice (by simp), ?_, below_own hb0 hg ho (Nat.le_refl _) hb0.size, h.2⟩
    simpa using hown
end Go.Proofs.Ythbaoljghofkoaa
