/- RecEncodes: the law's walk. Conditions: the record lies there. -/
import Derived.Test.YthbaoljghofkoaaRecL2
import Derived.Test.YthbaoljghofkoaaRecFe
namespace Go.Proofs.Ythbaoljghofkoaa
open Go.ChangeShapes Go.WideShapes Go.ChangeAt Go.RowKit
open NumMath
set_option linter.unusedVariables false
set_option linter.unusedSimpArgs false
set_option maxRecDepth 20000

set_option maxHeartbeats 16000000 in
theorem recEncodes_walk (v0 : Value) (w : World) (w0 : IsRec w v0) :
    Calls Try.prog 3 #[v0] w fun e w' => e = .returned (.bool true) ∧ Below w.heap.size w w' := by
  obtain ⟨r, m, rfl, h⟩ := w0
  have kr := Blk.new w 31 (recA r m)
  have b1 := below_alloc w (.cells (recA r m) 31)
  go_enter Try.func3, Try.ntmps3
  go_upto_region 1 with fail
  have hR := h.below b1
  generalize World.alloc w _ = w1 at *
  have hgr := kr.lt
  have HKR := Lib.hid kr
  have HB1 := Lib.hid b1
  have HR := Lib.hid hR
  have hBw : w.heap.size ≤ w1.heap.size := b1.size
  have ldr : Hid (∀ W, Below w1.heap.size w1 W → (Instr.loadAt 31 (.pointer (some ⟨w.heap.size, 0, none⟩))).run Try.prog W = .ok (.agg (recA r m)) W) := Lib.hid fun W hW => load_rec (HKR.out.below hW hgr)
  have FIN : Hid (∀ W, Below w1.heap.size w1 W → Below w.heap.size w W) := Lib.hid fun W a => HB1.out.trans (a.mono HB1.out.size)
  clear kr b1 h hR
  have ch := heavy_any r m w1
  have ld := ldr.out w1 (Below.refl _ _)
  generalize hhr : heavyB r = hr at *
  have HHR := Lib.hid hhr
  clear hhr
  go_wp2_with (refine wpList_load_run rfl 31 (.tmp 1) _ _ rfl rfl ld ?_; clear ld)
  refine ch.mono ?_
  rintro e w2 ⟨rfl, b2⟩
  have B2 := Lib.hid b2
  have kn := known_any w2
  clear ch b2
  cases hr
  rotate_left
  · go_wp2_with fail
    refine kn.mono ?_
    rintro e w3 ⟨rfl, b3⟩
    have F := Lib.hid (FIN.out _ (B2.out.trans (b3.mono B2.out.size)))
    clear kn b3
    go_wp2
    go_ret
    exact ⟨rfl, F.out⟩
  go_wp2_with fail
  refine kn.mono ?_
  rintro e w4 ⟨rfl, b4⟩
  have B4 := Lib.hid (B2.out.trans (b4.mono B2.out.size))
  have ld := ldr.out w4 B4.out
  have st := store_rec_new w4 r m
  have k3 := Blk.new w4 31 (recA r m)
  have b5 := below_alloc w4 (.cells (recA r m) 31)
  have B5 := Lib.hid (B4.out.trans (b5.mono B4.out.size))
  clear kn b4 B2 b5
  go_upto_region 4 with (first | (refine wpList_load_run rfl 31 (.tmp 1) _ _ rfl rfl ld ?_; clear ld) | (refine wpList_store_run rfl 31 (.tmp 3) (.tmp 15) _ _ rfl rfl rfl st ?_; clear st))
  have hg34 : w1.heap.size ≤ w4.heap.size := B4.out.size
  generalize World.alloc w4 _ = w5 at *
  generalize w4.heap.size = g3 at *
  have hh := heavyB_not HHR.out
  obtain ⟨n, hn⟩ : ∃ n, r.chg.after.length = n := ⟨_, rfl⟩
  have q9 : w5.cell? ⟨w.heap.size, 9, none⟩ = some (.slice m.cm.A2 n m.cm.c2) := by
    have : w5.cell? ⟨w.heap.size, 9, none⟩ = some (.slice m.cm.A2 r.chg.after.length m.cm.c2) := (HKR.out.below B5.out hgr).cell 9
    rwa [hn] at this
  have hw5 := Nat.le_trans hBw B5.out.size
  have ha5 := HR.out.chg.aft.below (B5.out.mono hBw)
  have cl := lent_any m.cm.A2 m.cm.c2 r.chg.after w.heap.size w5 ha5 (Nat.le_trans hh.2.2.2 (by decide))
  rw [hn] at cl
  have HNN := Lib.hid hn
  clear hn ha5
  go_wp2_with fail
  refine cl.mono ?_
  rintro e w6 ⟨A', c', rfl, o6, b6⟩
  have k6 := k3.below b6 k3.lt
  have hne : ∀ k, (Value.slice A' n c').ownBlock = some k → k ≠ g3 := fun k hk e => by
    rcases own_block (by decide) o6 k6 with z | z
    · rw [z] at hk; cases hk
    · rw [e] at hk; exact z hk
  have hgw : w.heap.size < g3 := Nat.lt_of_lt_of_le hgr hg34
  have k7 := k6.set_ 9 (.slice A' n c')
  have hO := (Only.refl (fun b => b = g3) w6).setCell (p := ⟨g3, 9, none⟩) (.inl rfl) (.slice A' n c')
  have o7 := hO.own o6 fun b hk e => hne b hk e
  have B6 := Lib.hid (B5.out.trans (b6.mono B5.out.size))
  have B7 := Lib.hid (B6.out.trans (hO.below B6.out.size fun b q => by subst q; exact hg34))
  have e7 : (recA r m).setIfInBounds 9 (.slice A' n c') = recA r ⟨⟨m.cm.A1, m.cm.c1, A', c'⟩, m.A3, m.c3, m.A4, m.c4⟩ := by
    rw [← HNN.out]
    rfl
  rw [e7] at k7
  have by7 := own_bytes o7 HR.out.chg.aft.2
  have hcap := own_cap' o6
  have q93 : w6.cell? ⟨g3, 9, none⟩ = some (.slice m.cm.A2 r.chg.after.length m.cm.c2) := k6.cell 9
  have qf := k6.frozen 9
  clear cl k3 b6 q9 hne hO o7 o6 e7
  go_upto_region 5 with fail
  generalize World.setCell _ _ _ = w7 at *
  have hw7 : w.heap.size ≤ w7.heap.size := Nat.le_trans hBw B7.out.size
  have R7 : Hid (RecAt w7 w7.heap.size r m) := Lib.hid ((HR.out.below (B7.out.mono hBw)).more hw7)
  have hO7 : RecAt w7 w7.heap.size r ⟨⟨m.cm.A1, m.cm.c1, A', c'⟩, m.A3, m.c3, m.A4, m.c4⟩ :=
    ⟨⟨R7.out.chg.bef, by7, R7.out.chg.cap1, by rw [HNN.out]; exact hcap, R7.out.chg.fits⟩, R7.out.txs, R7.out.dirs, R7.out.fits⟩
  generalize (⟨⟨m.cm.A1, m.cm.c1, A', c'⟩, m.A3, m.c3, m.A4, m.c4⟩ : RecMm) = m' at *
  have K7 := Lib.hid k7
  have HO7 := Lib.hid hO7
  have hg7 := k7.lt
  have ld := load_rec k7
  have ce := encode_any r m' w7.heap.size w7 hO7 (Nat.le_refl _)
  clear q93 qf k6 by7 hcap k7 hO7
  go_wp2_with (refine wpList_load_run rfl 31 (.tmp 3) _ _ rfl rfl ld ?_; clear ld)
  refine ce.mono ?_
  rintro e w8 ⟨b8, he⟩
  have HB8 := Lib.hid b8
  have B8 := Lib.hid (B7.out.trans (b8.mono B7.out.size))
  have ld := ldr.out w8 B8.out
  have cf := refencode_any r m w7.heap.size w8 (R7.out.below b8) b8.size
  clear ce b8
  have CS : Hid (∀ W, Below w8.heap.size w8 W → (Instr.loadAt 31 (.pointer (some ⟨g3, 0, none⟩))).run Try.prog W = .ok (.agg (recA r m')) W ∧ Calls Try.prog 15 #[.agg (recA r m'), .agg (recA r m)] W (SamePost r r W)) := Lib.hid fun W hW => by
    have h7 := HB8.out.trans (hW.mono HB8.out.size)
    exact ⟨load_rec (K7.out.below h7 hg7), same_rec r r m' m w7.heap.size W (HO7.out.below h7) (R7.out.below h7) h7.size (Nat.le_trans hh.1 (by decide)) (Nat.le_trans hh.2.1 (by decide))⟩
  rcases he with ⟨ok1, A1, c1, rfl, o1⟩ | ⟨ok1, rfl⟩
  · have hsm := encL_small HR.out.fits
    have by8 := own_bytes o1 hsm
    clear o1
    go_wp2_with (refine wpList_load_run rfl 31 (.tmp 1) _ _ rfl rfl ld ?_; clear ld)
    refine cf.mono ?_
    rintro e w9 ⟨b9, ⟨-, A2, c2, rfl, o2⟩ | ⟨no, -⟩⟩
    rotate_left
    · rw [ok1] at no
      cases no
    have HB9 := Lib.hid b9
    have B9 := Lib.hid (B8.out.trans (b9.mono B8.out.size))
    have cs := same_any A1 A2 c1 c2 (encL r) (encL r) w9.heap.size w9 ((by8.below b9).more b9.size) (own_bytes o2 hsm)
    rw [decide_eq_true (rfl : encL r = encL r)] at cs
    generalize (encL r).length = N at *
    obtain ⟨ld1, cc⟩ := CS.out w9 b9
    have ld2 := ldr.out w9 B9.out
    clear cf b9 by8 o2 hsm CS
    go_wp2_with fail
    refine cs.mono ?_
    rintro e wz ⟨rfl, rfl⟩
    clear cs
    go_wp2_with (first | (refine wpList_load_run_g (by rfl) 31 (.tmp 3) _ _ rfl rfl ld1 ?_; clear ld1) | (refine wpList_load_run_g (by rfl) 31 (.tmp 1) _ _ rfl rfl ld2 ?_; clear ld2) | fail)
    refine cc.mono ?_
    rintro e w10 ⟨⟨x, rfl, hx⟩, b10⟩
    obtain rfl : x = true := hx.2 rfl
    have F := Lib.hid (FIN.out _ (B9.out.trans (b10.mono B9.out.size)))
    clear cc b10 hx
    go_wp2
    go_ret
    exact ⟨rfl, F.out⟩
  · go_wp2_with (refine wpList_load_run rfl 31 (.tmp 1) _ _ rfl rfl ld ?_; clear ld)
    refine cf.mono ?_
    rintro e w9 ⟨b9, ⟨no, -⟩ | ⟨-, rfl⟩⟩
    · rw [ok1] at no
      cases no
    have B9 := Lib.hid (B8.out.trans (b9.mono B8.out.size))
    have cs := same_any none none 0 0 [] [] w9.heap.size w9 (Bytes.nil _ _ _) (Bytes.nil _ _ _)
    rw [decide_eq_true (rfl : ([] : List Nat) = [])] at cs
    obtain ⟨ld1, cc⟩ := CS.out w9 b9
    have ld2 := ldr.out w9 B9.out
    clear cf b9 CS
    go_wp2_with fail
    refine cs.mono ?_
    rintro e wz ⟨rfl, rfl⟩
    clear cs
    go_wp2_with (first | (refine wpList_load_run_g (by rfl) 31 (.tmp 3) _ _ rfl rfl ld1 ?_; clear ld1) | (refine wpList_load_run_g (by rfl) 31 (.tmp 1) _ _ rfl rfl ld2 ?_; clear ld2) | fail)
    refine cc.mono ?_
    rintro e w10 ⟨⟨x, rfl, hx⟩, b10⟩
    obtain rfl : x = true := hx.2 rfl
    have F := Lib.hid (FIN.out _ (B9.out.trans (b10.mono B9.out.size)))
    clear cc b10 hx
    go_wp2
    go_ret
    exact ⟨rfl, F.out⟩
end Go.Proofs.Ythbaoljghofkoaa
