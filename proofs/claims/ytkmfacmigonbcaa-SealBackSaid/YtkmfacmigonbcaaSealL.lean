/- The laws SealSeals, SealOpens, SealBack, walked. Conditions: none beyond what the row says. -/
import Derived.Test.YtkmfacmigonbcaaSealK
import Derived.Test.YtkmfacmigonbcaaSealR
import Derived.Test.YtkmfacmigonbcaaSealQ
import Derived.Test.YtkmfacmigonbcaaSealP
import Derived.Test.YtkmfacmigonbcaaRef
import Derived.Test.YtkmfacmigonbcaaArgs
namespace Go.Proofs.Ytkmfacmigonbcaa
open Go.ChangeShapes Go.WideShapes Go.ChangeAt Go.RowKit
set_option linter.unusedVariables false
set_option linter.unusedSimpArgs false
set_option maxRecDepth 20000

set_option maxHeartbeats 4000000 in
theorem sealOpens_walk (v0 : Value) (w : World) (w0 : IsBlocks w v0) :
    Calls Try.prog 4 #[v0] w fun e w' => e = .returned (.bool true) ∧ Below w.heap.size w w' := by
  obtain ⟨A, c, L, ls, rfl, hlc, hcm, hat, hr⟩ := w0
  have hsec := sectors_any A c L ls _ w hat hr 20 (by omega)
  by_cases hs : sectB ls 20 = true
  · obtain ⟨hle, hle2⟩ := sectB_le hs
    rw [hs] at hsec
    have hl1000 : ls.length ≤ 1000 := by omega
    have hopen := fun W (hW : Below w.heap.size w W) => open_any A c L ls _ W (hat.below hW) (hr.below hW) hW.size hle2
    have hropen := fun W (hW : Below w.heap.size w W) => refopen_any A c L ls _ W (hat.below hW) (hr.below hW) hW.size hle2
    have hgr := fun W (hW : Below w.heap.size w W) => great_any A c L ls _ W (hat.below hW) (hr.below hW) hl1000 hle2
    have hrgr := fun W (hW : Below w.heap.size w W) => refgreat_any A c L ls _ W (hat.below hW) (hr.below hW) hl1000 hle2
    clear hs hle hle2 hat hr hl1000
    go_enter Try.func4, Try.ntmps4
    go_wp2_with fail
    refine hsec.mono ?_
    clear hsec
    rintro e w1 ⟨rfl, rfl⟩
    go_wp2_with fail
    refine (known_any _).mono ?_
    rintro e w2 ⟨rfl, hb2⟩
    go_wp2_with fail
    refine (hopen _ hb2).mono ?_
    rintro e w3 ⟨A3, c3, rfl, r3⟩
    have hb3 := hb2.trans (r3.2.1.mono hb2.size)
    clear hopen
    go_wp2_with fail
    refine (hropen _ hb3).mono ?_
    rintro e w4 ⟨A4, c4, rfl, r4⟩
    have hb4 := hb3.trans (r4.2.1.mono hb3.size)
    have x3 := (r3.bytes.below r4.2.1).more r4.2.1.size
    have x4 := r4.bytes
    have hsame := same_any A3 A4 c3 c4 (openB ls) (openB ls) w4.heap.size w4 x3 x4
    rw [decide_eq_true rfl] at hsame
    have hg5 := hgr _ hb4
    have hg6 := fun W (hW : Drew w4 W) => hrgr W (hb4.trans (hW.below _))
    clear hropen hgr hrgr r3 r4 x3 x4
    generalize openB ls = ob at *
    generalize openN ls = on at *
    generalize openOk ls = ok at *
    generalize greatL ls = gl at *
    have hok : (ok == ok) = true := by simp
    go_wp2_with (first
      | (go_at_call 12; refine hsame.mono ?_; rintro e w5 ⟨rfl, rfl⟩)
      | (go_at_call 16; refine hg5.mono ?_; rintro e w6 ⟨rfl, hd6⟩)
      | (go_at_call 17; refine (hg6 _ hd6).mono ?_; rintro e w7 ⟨rfl, hd7⟩)
      | fail)
    go_ret
    exact ⟨rfl, hb4.trans ((hd6.trans hd7).below _)⟩
  · rw [Bool.not_eq_true] at hs
    rw [hs] at hsec
    clear hs
    go_enter Try.func4, Try.ntmps4
    go_wp2_with fail
    refine hsec.mono ?_
    clear hsec
    rintro e w1 ⟨rfl, rfl⟩
    go_wp2_with fail
    refine (known_any _).mono ?_
    rintro e w2 ⟨rfl, hb2⟩
    go_wp2
    go_ret
    exact ⟨rfl, hb2⟩
set_option maxHeartbeats 4000000 in
theorem sealSeals_walk (v0 v1 : Value) (w : World) (w0 : IsBytes w v0) (w1 : IsInt .u64 w v1) :
    Calls Try.prog 3 #[v0, v1] w fun e w' => e = .returned (.bool true) ∧ Below w.heap.size w w' := by
  obtain ⟨A, c, l, rfl, hlc, hcm, hl⟩ := w0
  obtain ⟨a, rfl, hwf⟩ := w1
  obtain ⟨st, rfl, hst⟩ := nat_u64 hwf
  rcases Nat.lt_or_ge 600 l.length with hlt | hge
  · have ht : decide ((600 : Int) < (l.length : Int)) = true := by rw [decide_eq_true_iff]; omega
    go_enter Try.func3, Try.ntmps3
    go_wp2_with (go_at_call 7; refine (known_any _).mono ?_; rintro e w1 ⟨rfl, hb1⟩)
    go_ret
    exact ⟨rfl, hb1⟩
  have ht : decide ((600 : Int) < (l.length : Int)) = false := by rw [decide_eq_false_iff_not]; omega
  go_enter Try.func3, Try.ntmps3
  go_wp2_with fail
  refine (known_any _).mono ?_
  rintro e w2 ⟨rfl, hb2⟩
  have hl2 := hl.below hb2
  go_wp2_with fail
  refine (lent_any _ _ l _ _ hl2 (by omega)).mono ?_
  rintro e w3 ⟨A3, c3, rfl, hown3, hb3⟩
  have hc3 := own_cap hown3
  have hbw3 := hb2.trans (hb3.mono hb2.size)
  have ho3 := own_bytes hown3 hl.2
  have hsl := Seal_any A3 l c3 hc3 st hst w3 ho3
  clear hown3
  go_wp2_with fail
  refine hsl.mono ?_
  clear hsl
  intro e w4 hret4
  obtain ⟨A4, c4, L4, rfl, -, -, hb4, hat4, hrd4⟩ := hret4.is
  have hbw4 := hbw3.trans (hb4.mono hbw3.size)
  clear hret4
  have hrs := refseal_any A c l w.heap.size w4 (hl.below hbw4) hbw4.size hlc st hst (by omega)
  go_wp2_with fail
  refine hrs.mono ?_
  clear hrs
  intro e w5 hret5
  obtain ⟨A5, c5, L5, rfl, -, -, hb5, hat5, hrd5⟩ := hret5.is
  have hbw5 := hbw4.trans (hb5.mono hbw4.size)
  have hat4' := (hat4.below hb5).more hb5.size
  have hrd4' := (hrd4.below hb5).more hb5.size
  have ho5 := ((ho3.below hb4).below (hb5.mono hb4.size)).more (show w3.heap.size ≤ w5.heap.size from Nat.le_trans hb4.size hb5.size)
  have hl5 := (hl.below hbw5).more hbw5.size
  have hsl : (sealOf l st).length ≤ 100000 := by unfold sealOf; split <;> simp
  have hbl := blocks_any A4 A5 c4 c5 L4 L5 _ _ _ w5 hat4' hat5 hrd4' hrd5 hsl
  rw [decide_eq_true rfl] at hbl
  have hsame := fun W (hW : Drew w5 W) => same_any A3 A c3 c l l w5.heap.size W (ho5.below (hW.below _)) (hl5.below (hW.below _))
  rw [decide_eq_true rfl] at hsame
  clear hret5 hat4 hrd4 hbw4 hbw3 ho3 hl2 hat4' hrd4' hat5 hrd5 ho5 hl5 hsl
  generalize sealOf l st = so at *
  go_wp2_with (first
    | (go_at_call 9; refine hbl.mono ?_; rintro e w6 ⟨rfl, hd6⟩)
    | (go_at_call 12; refine (hsame _ hd6).mono ?_; rintro e w7 ⟨rfl, rfl⟩)
    | fail)
  go_ret
  exact ⟨rfl, hbw5.trans (hd6.below _)⟩
set_option maxHeartbeats 4000000 in
theorem sealBack_walk (v0 v1 : Value) (w : World) (w0 : IsBytes w v0) (w1 : IsInt .u64 w v1) :
    Calls Try.prog 5 #[v0, v1] w fun e w' => e = .returned (.bool true) ∧ Below w.heap.size w w' := by
  obtain ⟨A, c, l, rfl, hlc, hcm, hl⟩ := w0
  obtain ⟨a, rfl, hwf⟩ := w1
  obtain ⟨st, rfl, hst⟩ := nat_u64 hwf
  rcases Nat.lt_or_ge 448 l.length with hlt | hge
  · have ht : decide ((448 : Int) < (l.length : Int)) = true := by rw [decide_eq_true_iff]; omega
    go_enter Try.func5, Try.ntmps5
    go_wp2_with (go_at_call 7; refine (known_any _).mono ?_; rintro e w1 ⟨rfl, hb1⟩)
    go_ret
    exact ⟨rfl, hb1⟩
  have ht : decide ((448 : Int) < (l.length : Int)) = false := by rw [decide_eq_false_iff_not]; omega
  go_enter Try.func5, Try.ntmps5
  go_wp2_with fail
  refine (known_any _).mono ?_
  rintro e w2 ⟨rfl, hb2⟩
  have hl2 := hl.below hb2
  have hpg := page_any A c l _ w2 hl2 hb2.size hlc (by omega)
  go_wp2_with fail
  refine hpg.mono ?_
  clear hpg
  rintro e w3 ⟨x, hx, hret⟩
  obtain ⟨A3, c3, rfl, hown3, hb3, hx3⟩ := hret.is
  have hc3 := own_cap hown3
  have hbw3 := hb2.trans (hb3.mono hb2.size)
  have hsl := Seal_any A3 x c3 hc3 st hst w3 hx3
  obtain ⟨k1, k2, k3, k4⟩ := seal_open hx hst
  have hsm : (sealOf x st).length ≤ 1000 := by rw [sealOf_length hx]; omega
  have hle : ∀ s ∈ sealOf x st, s.length ≤ 200 := fun s hs => by rw [sealOf_each hx st s hs]; omega
  clear hret hown3
  rw [hx] at hsl ⊢
  go_wp2_with fail
  refine hsl.mono ?_
  clear hsl
  intro e w4 hret4
  obtain ⟨A4, c4, L4, rfl, -, -, hb4, hat4, hrd4⟩ := hret4.is
  have hbw4 := hbw3.trans (hb4.mono hbw3.size)
  have hopen := open_any A4 c4 L4 _ _ w4 hat4 hrd4 (Nat.le_refl _) hle
  have hgr := fun W (hW : Below w4.heap.size w4 W) => great_any A4 c4 L4 _ _ W (hat4.below hW) (hrd4.below hW) hsm hle
  rw [k4] at hgr
  clear hret4 hat4 hrd4 hle
  rw [sealOf_length hx] at hgr hopen ⊢
  go_wp2_with fail
  refine hopen.mono ?_
  clear hopen
  rintro e w5 ⟨A5, c5, rfl, r5⟩
  rw [k1, k2, k3] at *
  have hbw5 := hbw4.trans (r5.2.1.mono hbw4.size)
  have hg5 := hgr w5 r5.2.1
  have hx5 := ((hx3.below hb4).below (r5.2.1.mono hb4.size)).more (show w3.heap.size ≤ w5.heap.size from Nat.le_trans hb4.size r5.2.1.size)
  have hsame := same_any A3 A5 c3 c5 x x w5.heap.size w5 hx5 r5.bytes
  rw [decide_eq_true rfl] at hsame
  rw [hx] at hsame ⊢
  clear r5 hx5 hgr hx3 k1 k2 k3 k4 hsm
  go_wp2_with (first
    | (go_at_call 12; refine hsame.mono ?_; rintro e w6 ⟨rfl, rfl⟩)
    | (go_at_call 16; refine hg5.mono ?_; rintro e w7 ⟨rfl, hd7⟩)
    | fail)
  go_ret
  exact ⟨rfl, hbw5.trans (hd7.below _)⟩
end Go.Proofs.Ytkmfacmigonbcaa
