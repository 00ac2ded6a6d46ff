/- wal: on. Conditions: the device lies there. -/
import Derived.Test.YtkganajbilnanaaWWalL
namespace Go.Proofs.Ytkganajbilnanaa
open Go.ChangeShapes Go.WideShapes Go.ChangeAt Go.RowKit
open NumMath
set_option linter.unusedVariables false
set_option linter.unusedSimpArgs false
set_option maxRecDepth 20000

def logZ (strips : Nat) : LogP := ⟨⟨0, 0, 0, 0⟩, strips, 0, [], [], 0⟩
def OnPost (D : DevP) (pd : Value) (w : World) (e : Ending) (w' : World) : Prop :=
  Below w.heap.size w w' ∧ ((D.size 0 < 18 ∧ e = .returned (.tuple #[.pointer none, .int .u16 82])) ∨
    (18 ≤ D.size 0 ∧ e = .returned (.tuple #[.pointer (some ⟨w.heap.size, 0, none⟩), .int .u16 0]) ∧ LogAt (logZ ((D.size 0 - 2) / 2)) w' (fun b => b = w.heap.size) w.heap.size pd (.slice none 0 0) (.slice none 0 0)))
theorem on_any {D : DevP} {w : World} {F : Nat → Prop} {pd : Value} (h : IsDev D w F pd) (hs : D.size 0 ≤ 4096) :
    Calls Try.prog 36 #[pd] w (OnPost D pd w) := by
  have cs := sizes_any h 0 (by omega)
  obtain ⟨gp, s, lv, X, rfl, -⟩ := h
  obtain ⟨n, hn⟩ : ∃ n, D.size 0 = n := ⟨_, rfl⟩
  rw [hn] at cs
  unfold OnPost
  rw [hn] at hs ⊢
  clear hn
  rcases Nat.lt_or_ge n 18 with z | z
  · obtain ⟨q, hq⟩ : ∃ q : Int, ((n : Int) - 2).tdiv 2 = q := ⟨_, rfl⟩
    have v1 : IntKind.i64.wrap ((n : Int) - 2) = (n : Int) - 2 := by rw [IntKind.wrap_i64]; omega
    have hq8 : q < 8 := by rw [← hq]; have := Int.tdiv_le_tdiv (show (0:Int) < 2 by omega) (show (n : Int) - 2 ≤ 15 by omega); have e : (15 : Int).tdiv 2 = 7 := by decide
                           omega
    have hqm : -2 ≤ q := by rw [← hq]; have := Int.tdiv_le_tdiv (show (0:Int) < 2 by omega) (show (-2 : Int) ≤ (n : Int) - 2 by omega); have e : (-2 : Int).tdiv 2 = -1 := by decide
                            omega
    have v2 : wrap64 q = q := by unfold wrap64; omega
    have v3 : IntKind.i64.wrap q = q := by rw [IntKind.wrap_i64]; omega
    have t1 : decide (q < 8) = true := by rw [decide_eq_true_iff]; exact hq8
    clear hq8 hqm
    have HB := Lib.hid (below_alloc w (.cells #[.int .u64 0, .int .u64 0, .int .u64 0, .int .i64 0, .pointer (some ⟨gp, 0, none⟩), .int .i64 q, .int .i64 0, .slice none 0 0, .slice none 0 0, .int .i64 0] 75))
    go_enter Try.func36, Try.ntmps36
    go_wp2_with fail
    refine cs.mono ?_
    rintro e w2 ⟨rfl, rfl⟩
    clear cs
    go_wp2
    go_ret2
    exact ⟨HB.out, .inl ⟨z, rfl⟩⟩
  · obtain ⟨q, hq⟩ : ∃ q : Nat, (n - 2) / 2 = q := ⟨_, rfl⟩
    have v1 : IntKind.i64.wrap ((n : Int) - 2) = ((n - 2 : Nat) : Int) := by rw [IntKind.wrap_i64]; omega
    have v2 : ((n - 2 : Nat) : Int).tdiv 2 = (q : Int) := by rw [← hq]; exact (Int.ofNat_tdiv (n - 2) 2).symm
    have v2' : ((n - 2 : Nat) : Int) / 2 = (q : Int) := by omega
    have v3 : wrap64 (q : Int) = (q : Int) := by unfold wrap64; omega
    have v4 : IntKind.i64.wrap (q : Int) = (q : Int) := by rw [IntKind.wrap_i64]; omega
    have t1 : decide ((q : Int) < 8) = false := by rw [decide_eq_false_iff_not]; omega
    have u1 : ¬ (q < 8) := by omega
    have kb := Blk.new w 75 #[.int .u64 0, .int .u64 0, .int .u64 0, .int .i64 0, .pointer (some ⟨gp, 0, none⟩), .int .i64 q, .int .i64 0, .slice none 0 0, .slice none 0 0, .int .i64 0]
    have HB := Lib.hid (And.intro (below_alloc w (.cells #[.int .u64 0, .int .u64 0, .int .u64 0, .int .i64 0, .pointer (some ⟨gp, 0, none⟩), .int .i64 q, .int .i64 0, .slice none 0 0, .slice none 0 0, .int .i64 0] 75)) kb)
    have HQ := Lib.hid hq
    clear hq kb
    go_enter Try.func36, Try.ntmps36
    go_wp2_with fail
    refine cs.mono ?_
    rintro e w2 ⟨rfl, rfl⟩
    clear cs
    go_wp2
    go_ret2
    refine ⟨HB.out.1, .inr ⟨z, rfl, ?_⟩⟩
    rw [HQ.out]
    exact ⟨HB.out.2, rfl, Strm.nil _ _, World.ownsRow_nil _ _ _ _, fun b e => by cases e⟩
end Go.Proofs.Ytkganajbilnanaa
