/- page: put, New, count, low, end, at, data, list, Number, LSN, Stamp, Bytes. Conditions: the page lies there. -/
import Derived.Test.YtkknfccfgmflmaaPgBase
import Derived.Deep.RegionLaw
namespace Go.Proofs.Ytkknfccfgmflmaa
open Go.ChangeShapes Go.WideShapes Go.ChangeAt Go.RowKit
open NumMath
set_option linter.unusedVariables false
set_option linter.unusedSimpArgs false
set_option maxRecDepth 20000

/-- a number laid there -/
def wr (f : Nat → Nat) (a n v : Nat) : Nat → Nat := upd f a (putF n v)
theorem wr_small {f : Nat → Nat} (h : ∀ i, f i < 256) (a n v : Nat) (i : Nat) : wr f a n v i < 256 := upd_small h a (putF_small _ _) i
theorem u8_one : (Try.prog.info? 5).map (·.size) = some 1 := by kernel_rfl
section
variable {w : World} {gp : Nat} {f : Nat → Nat}
set_option maxHeartbeats 2000000 in
theorem pput_any (h : PgAt w gp f) (a n v : Nat) (hn1 : 1 ≤ n) (hn : n ≤ 8) (ha : a + n ≤ 448) (hv : v < 18446744073709551616) :
    Calls Try.prog 37 #[.pointer (some ⟨gp, 0, none⟩), .int .i64 a, .int .i64 n, .int .u64 v] w fun e w' => e = .returned (.tuple #[]) ∧ PgPost gp (wr f a n v) w w' := by
  have hpl : putB v (n : Nat) = putF n v := by
    unfold putB
    rw [if_pos ⟨by omega, by omega⟩]
    rfl
  have hc : Calls Try.prog 55 #[.int .u64 v, .int .i64 n] w.drew (RetBytes 5 (putF n v) w.drew) := by
    have := put_any v (n : Nat) w.drew hv (by omega) (by omega)
    rw [hpl] at this
    exact this
  have hlen := putF_length n v
  have fin : ∀ w1 w5, Below w.heap.size w w1 → Blk w5 gp 67 ((pgL (upd f a (putF n v))).map byteV).toArray → w1.grownBy w5 (some gp) → PgPost gp (wr f a n v) w w5 := fun w1 w5 hb hk hg =>
    PgPost.from hb (PgPost.of_grown hk (wr_small h.small a n v) hg)
  have FIN := Lib.hid fin
  have hblk := h.blk
  have e1 : (0 : Int) ≤ (a : Int) := by omega
  have e2 : (a : Int) ≤ 448 := by omega
  have hgl := h.lt
  have hs := putF_small n v
  have e3 : (448 = a) = False := eq_false (by omega)
  clear h fin hpl
  generalize putF n v = l at *
  go_enter Try.func37, Try.ntmps37
  go_wp2_with fail
  go_region_law
    (first
      | (go_simp; go_at_call 55; refine hc.mono ?_; intro e wc hret; obtain ⟨Ac, cc, rfl, hc1, hb1, hs1⟩ := hret; rw [hlen] at hc1 ⊢; have hbw : Below w.heap.size w wc := (below_drew0 w).trans hb1; have hk1 := hblk.below hbw hgl)
      | (refine step_copy_blk (by rfl) _ _ 24 24 (by rfl) 5 Try.underlying24 u8_one gp a (448 - a) (448 - a) 67 f (by rfl) hk1 (by omega) wc.heap.size Ac n cc l (by rfl) hlen (own_bytes (hlen ▸ hc1) hs) (by omega) ?_; intro w5 hb5 hg5; have H5 := Lib.hid (FIN.out wc w5 hbw hb5 hg5); clear hb5 hg5)
      | fail)
  all_goals
    go_wp2
    go_end0
    exact ⟨rfl, H5.out⟩
end
end Go.Proofs.Ytkknfccfgmflmaa
