/- page: Clear, New. Conditions: the page lies there; its list is as it must be. -/
import Derived.Test.YtkknfccfgmflmaaPgMath
namespace Go.Proofs.Ytkknfccfgmflmaa
open Go.ChangeShapes Go.WideShapes Go.ChangeAt Go.RowKit
open NumMath
set_option linter.unusedVariables false
set_option linter.unusedSimpArgs false
set_option maxRecDepth 20000

/-- a slot's data are made noughts -/
def zap (f : Nat → Nat) (s : Nat) : Nat → Nat := upd f (atN f s) (List.replicate (lenN f s) 0)
def clearF (f : Nat → Nat) (s : Nat) : Nat → Nat := settleF (lst (zap f s) s 0 0)
theorem zap_same {f : Nat → Nat} (ho : Ok f) {s : Nat} (hs : s < cnt f) (hn : 0 < lenN f s) : SameList f (zap f s) := by
  have := ho.ent s hs
  exact SameList.upd _ _ (by omega)
theorem zeros_small (n : Nat) : Small (List.replicate n 0) := fun x hx => by rw [(List.mem_replicate.1 hx).2]; omega
section
variable {w : World} {gp : Nat} {f : Nat → Nat}
theorem clear_no (h : PgAt w gp f) (s : Int) (a : Nat) (hd : Calls Try.prog 31 #[.pointer (some ⟨gp, 0, none⟩), .int .i64 s] w fun e w' => e = .returned (piece gp a 0) ∧ w = w') :
    Calls Try.prog 22 #[.pointer (some ⟨gp, 0, none⟩), .int .i64 s] w fun e w' => e = .returned (.bool false) ∧ w = w' := by
  unfold piece at hd
  clear h
  go_enter Try.func22, Try.ntmps22
  go_wp2_with fail
  refine hd.mono ?_
  rintro e w1 ⟨rfl, rfl⟩
  clear hd
  go_wp2
  go_ret
  exact ⟨rfl, rfl⟩
set_option maxHeartbeats 2000000 in
theorem clear_yes (h : PgAt w gp f) (ho : Ok f) (s : Nat) (hs : s < cnt f) (hn : 0 < lenN f s) :
    Calls Try.prog 22 #[.pointer (some ⟨gp, 0, none⟩), .int .i64 s] w fun e w' => e = .returned (.bool true) ∧ PgPost gp (clearF f s) w w' := by
  obtain ⟨i0, hi0, hz0, hz1, hz2⟩ := info_parts u8_info
  have hd := data_ok h ho s hs
  have hsm := zap_same ho hs hn
  have hfit := ho.fit hs
  have hzap : zap f s = upd f (atN f s) (List.replicate (lenN f s) 0) := rfl
  have hcl : clearF f s = settleF (lst (zap f s) s 0 0) := rfl
  have hok2 := (hsm.ok ho).lst0 s
  have hblk := h.blk
  have hsmall : ∀ i, zap f s i < 256 := fun i => upd_small h.small _ (zeros_small _) i
  have hc40 := ho.c40
  rw [hcl]
  unfold piece at hd
  have HZ := Lib.hid hzap
  clear h ho hsm hcl hzap
  generalize zap f s = g at *
  generalize atN f s = a at *
  generalize lenN f s = n at *
  have t1 : ((n : Int) == 0) = false := by rw [beq_eq_false_iff_ne]; omega
  go_enter Try.func22, Try.ntmps22
  go_wp2_with fail
  refine hd.mono ?_
  rintro e w1 ⟨rfl, rfl⟩
  clear hd
  obtain ⟨w2, hrun, hb2, hg2⟩ := run_clear_blk (P := Try.prog) (w := w) 24 0 5 Try.underlying24 i0 hi0 hz0 gp a n (448 - a) 67 f hblk (by omega)
  have hp : PgPost gp g w w2 := PgPost.of_grown (by rw [HZ.out]; exact hb2) hsmall hg2
  have c1 := list_any hp.1 s 0 0 (by omega) (by omega) (by omega)
  clear hb2 hg2 hblk
  go_wp2_with fail
  clear hrun
  refine c1.mono ?_
  rintro e w3 ⟨rfl, hp3⟩
  have c2 := settle_any hp3.1 hok2
  clear c1
  go_wp2_with fail
  refine c2.mono ?_
  rintro e w4 ⟨rfl, hp4⟩
  have FIN := Lib.hid ((hp.trans hp3).trans hp4)
  clear c2 hp hp3 hp4
  go_wp2
  go_ret
  exact ⟨rfl, FIN.out⟩
def zeroF : Nat → Nat := fun _ => 0
/-- a new page -/
def newF (n : Nat) : Nat → Nat := wr (wr zeroF 8 4 n) 14 2 448
set_option maxHeartbeats 4000000 in
theorem new_any (n : Nat) (hn : n < 4294967296) (w : World) :
    Calls Try.prog 18 #[.int .u32 n] w fun e w' => e = .returned (.pointer (some ⟨w.heap.size, 0, none⟩)) ∧ PgAt w' w.heap.size (newF n) ∧ Below w.heap.size w w' := by
  have w1' : IntKind.u64.wrap (n : Int) = (n : Int) := by rw [IntKind.wrap_u64]; omega
  go_enter Try.func18, Try.ntmps18
  go_wp2_with fail
  have hz : Try.zeroCells67 = ((pgL zeroF).map byteV).toArray := by kernel_rfl
  have h0 : PgAt (w.alloc (.cells Try.zeroCells67 67)) w.heap.size zeroF := ⟨by rw [hz]; exact Blk.new w _ _, fun i => by show 0 < 256; omega⟩
  have hb0 : Below w.heap.size w (w.alloc (.cells Try.zeroCells67 67)) := (Below.refl _ _).alloc (Nat.le_refl _) _
  clear hz
  generalize World.alloc w _ = w0 at *
  have c1 := pput_any h0 8 4 n (by omega) (by omega) (by omega) (by omega)
  refine c1.mono ?_
  rintro e w1 ⟨rfl, hp1⟩
  have c2 := pput_any hp1.1 14 2 448 (by omega) (by omega) (by omega) (by omega)
  clear c1
  go_wp2_with fail
  refine c2.mono ?_
  rintro e w2 ⟨rfl, hp2⟩
  have hp := hp1.trans hp2
  have hbb : Below w.heap.size w w2 := hb0.trans (hp.2.below hb0.size fun b e => by omega)
  have FIN := Lib.hid (And.intro hp.1 hbb)
  clear c2 hp1 hp2 hp hbb
  go_wp2
  go_ret
  exact ⟨rfl, FIN.out⟩
end
end Go.Proofs.Ytkknfccfgmflmaa
