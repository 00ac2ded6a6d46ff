/- RecApart: the law's walk. Conditions: the records lie there. -/
import Derived.Test.YthbaoljghofkoaaRecL2
namespace Go.Proofs.Ythbaoljghofkoaa
open Go.ChangeShapes Go.WideShapes Go.ChangeAt Go.RowKit
open NumMath
set_option linter.unusedVariables false
set_option linter.unusedSimpArgs false
set_option maxRecDepth 20000

theorem enc_inj {r s : RecP} (h1 : okR r = true) (h2 : okR s = true) (f1 : r.Fits) (f2 : s.Fits) : encL r = encL s ↔ r = s := by
  constructor
  · intro h
    have e1 := readP_enc h1 f1
    rw [h, readP_enc h2 f2] at e1
    exact (Option.some.inj e1).symm
  · intro h
    rw [h]
set_option maxHeartbeats 16000000 in
theorem recApart_at (r s : RecP) (m k : RecMm) (w : World) (h : RecAt w w.heap.size r m) (h' : RecAt w w.heap.size s k) :
    Calls Try.prog 7 #[.agg (recA r m), .agg (recA s k)] w fun e w' => e = .returned (.bool true) ∧ Below w.heap.size w w' := by
  have kr := (Blk.new w 31 (recA r m)).alloc (.cells (recA s k) 31)
  have ks := Blk.new (w.alloc (.cells (recA r m) 31)) 31 (recA s k)
  have b1 := below_alloc w (.cells (recA r m) 31)
  have b2 := b1.alloc b1.size (.cells (recA s k) 31)
  rw [World.size_alloc] at ks
  go_enter Try.func7, Try.ntmps7
  go_upto_region 1 with fail
  have hR := h.below b2
  have hS := h'.below b2
  generalize World.alloc (World.alloc w _) _ = w1 at *
  have hgr := kr.lt
  have hgs := ks.lt
  generalize w.heap.size + 1 = g2 at *
  have HKR := Lib.hid kr
  have HKS := Lib.hid ks
  have HB2 := Lib.hid b2
  have HR := Lib.hid hR
  have HS := Lib.hid hS
  have hBw : w.heap.size ≤ w1.heap.size := b2.size
  have ldr : Hid (∀ W, Below w1.heap.size w1 W → (Instr.loadAt 31 (.pointer (some ⟨w.heap.size, 0, none⟩))).run Try.prog W = .ok (.agg (recA r m)) W) := Lib.hid fun W hW => load_rec (HKR.out.below hW hgr)
  have lds : Hid (∀ W, Below w1.heap.size w1 W → (Instr.loadAt 31 (.pointer (some ⟨g2, 0, none⟩))).run Try.prog W = .ok (.agg (recA s k)) W) := Lib.hid fun W hW => load_rec (HKS.out.below hW hgs)
  have FIN : Hid (∀ W, Below w1.heap.size w1 W → Below w.heap.size w W) := Lib.hid fun W a => HB2.out.trans (a.mono HB2.out.size)
  clear kr ks b1 b2 h h' hR hS
  have ch := heavy_any r m w1
  have ld := ldr.out w1 (Below.refl _ _)
  have HHr : Hid (heavyB r = heavyB r) := Lib.hid rfl
  generalize hhr : heavyB r = hr at *
  generalize hhs : heavyB s = hs at *
  have HHR := Lib.hid hhr
  have HHS := Lib.hid hhs
  clear hhr hhs HHr
  go_wp2_with (refine wpList_load_run rfl 31 (.tmp 2) _ _ rfl rfl ld ?_; clear ld)
  refine ch.mono ?_
  rintro e w2 ⟨rfl, b2⟩
  have B2 := Lib.hid b2
  clear ch
  cases hr
  rotate_left
  · have kn := known_any w2
    clear b2
    go_wp2_with fail
    refine kn.mono ?_
    rintro e w3 ⟨rfl, b3⟩
    have F := Lib.hid (FIN.out _ (B2.out.trans (b3.mono B2.out.size)))
    clear kn b3
    go_wp2
    go_ret
    exact ⟨rfl, F.out⟩
  have ld := lds.out w2 b2
  have ch := heavy_any s k w2
  rw [HHS.out] at ch
  clear b2
  go_wp2_with (refine wpList_load_run_g (by rfl) 31 (.tmp 3) _ _ rfl rfl ld ?_; clear ld)
  refine ch.mono ?_
  rintro e w3 ⟨rfl, b3⟩
  have B3 := Lib.hid (B2.out.trans (b3.mono B2.out.size))
  have kn := known_any w3
  clear ch b3
  cases hs
  rotate_left
  · go_wp2_with fail
    refine kn.mono ?_
    rintro e w4 ⟨rfl, b4⟩
    have F := Lib.hid (FIN.out _ (B3.out.trans (b4.mono B3.out.size)))
    clear kn b4
    go_wp2
    go_ret
    exact ⟨rfl, F.out⟩
  go_wp2_with fail
  refine kn.mono ?_
  rintro e w4 ⟨rfl, b4⟩
  have B4 := Lib.hid (B3.out.trans (b4.mono B3.out.size))
  have ld := ldr.out w4 B4.out
  have ce := encode_any r m w.heap.size w4 (HR.out.below (B4.out.mono hBw)) (Nat.le_trans hBw B4.out.size)
  clear kn b4 B2 B3
  go_wp2_with (refine wpList_load_run rfl 31 (.tmp 2) _ _ rfl rfl ld ?_; clear ld)
  refine ce.mono ?_
  rintro e w5 ⟨b5, he⟩
  have B5 := Lib.hid (B4.out.trans (b5.mono B4.out.size))
  have ld := lds.out w5 B5.out
  have ce2 := encode_any s k w.heap.size w5 (HS.out.below (B5.out.mono hBw)) (Nat.le_trans hBw B5.out.size)
  clear ce b5
  rcases he with ⟨ok1, A1, c1, rfl, o1⟩ | ⟨ok1, rfl⟩
  rotate_left
  · go_wp2_with (refine wpList_load_run rfl 31 (.tmp 3) _ _ rfl rfl ld ?_; clear ld)
    refine ce2.mono ?_
    rintro e w6 ⟨b6, he⟩
    have F := Lib.hid (FIN.out _ (B5.out.trans (b6.mono B5.out.size)))
    clear ce2 b6
    rcases he with ⟨ok2, A2, c2, rfl, o2⟩ | ⟨ok2, rfl⟩
    · clear o2
      go_wp2
      go_ret
      exact ⟨rfl, F.out⟩
    · go_wp2
      go_ret
      exact ⟨rfl, F.out⟩
  have by1 := own_bytes o1 (encL_small HR.out.fits)
  clear o1
  go_wp2_with (refine wpList_load_run rfl 31 (.tmp 3) _ _ rfl rfl ld ?_; clear ld)
  refine ce2.mono ?_
  rintro e w6 ⟨b6, he⟩
  have B6 := Lib.hid (B5.out.trans (b6.mono B5.out.size))
  have by1' := (by1.below b6).more b6.size
  have hlen1 : ((encL r).length : Int) ≠ 0 := by rw [encL_length]; omega
  clear ce2 b6 by1
  rcases he with ⟨ok2, A2, c2, rfl, o2⟩ | ⟨ok2, rfl⟩
  rotate_left
  · have F := Lib.hid (FIN.out _ B6.out)
    have t1 : (((encL r).length : Int) == 0) = false := by rw [beq_eq_false_iff_ne]; exact hlen1
    clear by1' hlen1
    generalize (encL r).length = n1 at *
    go_wp2
    go_ret
    exact ⟨rfl, F.out⟩
  have by2 := own_bytes o2 (encL_small HS.out.fits)
  have hEQ := Lib.hid (enc_inj ok1 ok2 HR.out.fits HS.out.fits)
  have h100 := heavyB_not HHR.out
  clear o2 hlen1
  have hdo : Below w6.heap.size w6 w6.drew := below_drew0 w6
  have cS : Hid (∀ W, Below w6.heap.size w6 W → Calls Try.prog 15 #[.agg #[.int .u8 (r.kind : Nat), .int .u32 (r.txn : Nat), .int .u64 (r.prev : Nat), .int .u64 (r.next : Nat), .int .u32 (r.chg.page : Nat), .int .u16 (r.chg.slot : Nat), .bool r.chg.had, .bool r.chg.has, .slice m.cm.A1 r.chg.before.length m.cm.c1, .slice m.cm.A2 r.chg.after.length m.cm.c2, .slice m.A3 r.txns.length m.c3, .slice m.A4 r.pages.length m.c4], .agg #[.int .u8 (s.kind : Nat), .int .u32 (s.txn : Nat), .int .u64 (s.prev : Nat), .int .u64 (s.next : Nat), .int .u32 (s.chg.page : Nat), .int .u16 (s.chg.slot : Nat), .bool s.chg.had, .bool s.chg.has, .slice k.cm.A1 s.chg.before.length k.cm.c1, .slice k.cm.A2 s.chg.after.length k.cm.c2, .slice k.A3 s.txns.length k.c3, .slice k.A4 s.pages.length k.c4]] W (SamePost r s W)) := Lib.hid fun W hW => by
    have hW1 := B6.out.trans (hW.mono B6.out.size)
    exact same_rec r s m k w.heap.size W (HR.out.below (hW1.mono hBw)) (HS.out.below (hW1.mono hBw)) (Nat.le_trans hBw hW1.size) (Nat.le_trans h100.1 (by decide)) (Nat.le_trans h100.2.1 (by decide))
  have cB : Hid (∀ W, Below w6.heap.size w6 W → Calls Try.prog 14 #[.slice A1 (encL r).length c1, .slice A2 (encL s).length c2] W fun e w' => e = .returned (.bool (decide (encL r = encL s))) ∧ W = w') := Lib.hid fun W hW =>
    same_any A1 A2 c1 c2 (encL r) (encL s) W.heap.size W ((by1'.below hW).more hW.size) ((by2.below hW).more hW.size)
  have hS : Hid (∀ W, Below w6.heap.size w6 W → ((W.cell? ⟨w.heap.size, 0, none⟩ = some (.int .u8 (r.kind : Nat)) ∧ W.cell? ⟨w.heap.size, 1, none⟩ = some (.int .u32 (r.txn : Nat)) ∧ W.cell? ⟨w.heap.size, 2, none⟩ = some (.int .u64 (r.prev : Nat)) ∧ W.cell? ⟨w.heap.size, 3, none⟩ = some (.int .u64 (r.next : Nat)) ∧ W.cell? ⟨w.heap.size, 4, none⟩ = some (.int .u32 (r.chg.page : Nat)) ∧ W.cell? ⟨w.heap.size, 5, none⟩ = some (.int .u16 (r.chg.slot : Nat)) ∧ W.cell? ⟨w.heap.size, 6, none⟩ = some (.bool r.chg.had) ∧ W.cell? ⟨w.heap.size, 7, none⟩ = some (.bool r.chg.has) ∧ W.cell? ⟨w.heap.size, 8, none⟩ = some (.slice m.cm.A1 r.chg.before.length m.cm.c1) ∧ W.cell? ⟨w.heap.size, 9, none⟩ = some (.slice m.cm.A2 r.chg.after.length m.cm.c2) ∧ W.cell? ⟨w.heap.size, 10, none⟩ = some (.slice m.A3 r.txns.length m.c3) ∧ W.cell? ⟨w.heap.size, 11, none⟩ = some (.slice m.A4 r.pages.length m.c4)) ∧ (W.cell? ⟨g2, 0, none⟩ = some (.int .u8 (s.kind : Nat)) ∧ W.cell? ⟨g2, 1, none⟩ = some (.int .u32 (s.txn : Nat)) ∧ W.cell? ⟨g2, 2, none⟩ = some (.int .u64 (s.prev : Nat)) ∧ W.cell? ⟨g2, 3, none⟩ = some (.int .u64 (s.next : Nat)) ∧ W.cell? ⟨g2, 4, none⟩ = some (.int .u32 (s.chg.page : Nat)) ∧ W.cell? ⟨g2, 5, none⟩ = some (.int .u16 (s.chg.slot : Nat)) ∧ W.cell? ⟨g2, 6, none⟩ = some (.bool s.chg.had) ∧ W.cell? ⟨g2, 7, none⟩ = some (.bool s.chg.has) ∧ W.cell? ⟨g2, 8, none⟩ = some (.slice k.cm.A1 s.chg.before.length k.cm.c1) ∧ W.cell? ⟨g2, 9, none⟩ = some (.slice k.cm.A2 s.chg.after.length k.cm.c2) ∧ W.cell? ⟨g2, 10, none⟩ = some (.slice k.A3 s.txns.length k.c3) ∧ W.cell? ⟨g2, 11, none⟩ = some (.slice k.A4 s.pages.length k.c4)))) := Lib.hid fun W hW => by
    have hW1 := B6.out.trans (hW.mono B6.out.size)
    have a := HKR.out.below hW1 hgr
    have b := HKS.out.below hW1 hgs
    exact ⟨⟨a.cell 0, a.cell 1, a.cell 2, a.cell 3, a.cell 4, a.cell 5, a.cell 6, a.cell 7, a.cell 8, a.cell 9, a.cell 10, a.cell 11⟩, ⟨b.cell 0, b.cell 1, b.cell 2, b.cell 3, b.cell 4, b.cell 5, b.cell 6, b.cell 7, b.cell 8, b.cell 9, b.cell 10, b.cell 11⟩⟩
  have hdd : decide (encL r = encL s) = true ↔ r = s := by
    rw [decide_eq_true_iff]
    exact hEQ.out
  have HDD := Lib.hid hdd
  clear hdd by1' by2 h100
  generalize decide (encL r = encL s) = z at *
  generalize (encL r).length = n1 at *
  generalize (encL s).length = n2 at *
  go_wp2_with fail
  go_region_held3 (fun W => (W.cell? ⟨w.heap.size, 0, none⟩ = some (.int .u8 (r.kind : Nat)) ∧ W.cell? ⟨w.heap.size, 1, none⟩ = some (.int .u32 (r.txn : Nat)) ∧ W.cell? ⟨w.heap.size, 2, none⟩ = some (.int .u64 (r.prev : Nat)) ∧ W.cell? ⟨w.heap.size, 3, none⟩ = some (.int .u64 (r.next : Nat)) ∧ W.cell? ⟨w.heap.size, 4, none⟩ = some (.int .u32 (r.chg.page : Nat)) ∧ W.cell? ⟨w.heap.size, 5, none⟩ = some (.int .u16 (r.chg.slot : Nat)) ∧ W.cell? ⟨w.heap.size, 6, none⟩ = some (.bool r.chg.had) ∧ W.cell? ⟨w.heap.size, 7, none⟩ = some (.bool r.chg.has) ∧ W.cell? ⟨w.heap.size, 8, none⟩ = some (.slice m.cm.A1 r.chg.before.length m.cm.c1) ∧ W.cell? ⟨w.heap.size, 9, none⟩ = some (.slice m.cm.A2 r.chg.after.length m.cm.c2) ∧ W.cell? ⟨w.heap.size, 10, none⟩ = some (.slice m.A3 r.txns.length m.c3) ∧ W.cell? ⟨w.heap.size, 11, none⟩ = some (.slice m.A4 r.pages.length m.c4)) ∧ (W.cell? ⟨g2, 0, none⟩ = some (.int .u8 (s.kind : Nat)) ∧ W.cell? ⟨g2, 1, none⟩ = some (.int .u32 (s.txn : Nat)) ∧ W.cell? ⟨g2, 2, none⟩ = some (.int .u64 (s.prev : Nat)) ∧ W.cell? ⟨g2, 3, none⟩ = some (.int .u64 (s.next : Nat)) ∧ W.cell? ⟨g2, 4, none⟩ = some (.int .u32 (s.chg.page : Nat)) ∧ W.cell? ⟨g2, 5, none⟩ = some (.int .u16 (s.chg.slot : Nat)) ∧ W.cell? ⟨g2, 6, none⟩ = some (.bool s.chg.had) ∧ W.cell? ⟨g2, 7, none⟩ = some (.bool s.chg.has) ∧ W.cell? ⟨g2, 8, none⟩ = some (.slice k.cm.A1 s.chg.before.length k.cm.c1) ∧ W.cell? ⟨g2, 9, none⟩ = some (.slice k.cm.A2 s.chg.after.length k.cm.c2) ∧ W.cell? ⟨g2, 10, none⟩ = some (.slice k.A3 s.txns.length k.c3) ∧ W.cell? ⟨g2, 11, none⟩ = some (.slice k.A4 s.pages.length k.c4)))
    (first | with_reducible (exact hS.out _ hdo) | with_reducible (exact hS.out _ B7) | fail)
    (first
      | ((with_reducible refine (cB.out _ B7).mono ?_); rintro e w8 ⟨rfl, rfl⟩)
      | ((with_reducible refine (cB.out _ hdo).mono ?_); rintro e w8 ⟨rfl, rfl⟩)
      | ((with_reducible refine (cS.out _ hdo).mono ?_); rintro e w7 ⟨⟨q, rfl, hq⟩, b7⟩; have B7 : Below w6.heap.size w6 w7 := hdo.trans b7; clear b7)
      | fail)
  all_goals
    have hz : q = z := by
      have := HDD.out
      cases q <;> cases z <;> simp_all
    subst hz
    have F := Lib.hid (FIN.out _ (B6.out.trans (B7.mono B6.out.size)))
    clear hq B7 hdo hS cS cB HDD hEQ
    cases q
    · go_wp2
      go_ret
      exact ⟨rfl, F.out⟩
    · go_wp2
      go_ret
      exact ⟨rfl, F.out⟩
theorem recApart_walk (v0 v1 : Value) (w : World) (w0 : IsRec w v0) (w1 : IsRec w v1) :
    Calls Try.prog 7 #[v0, v1] w fun e w' => e = .returned (.bool true) ∧ Below w.heap.size w w' := by
  obtain ⟨r, m, rfl, h⟩ := w0
  obtain ⟨s, k, rfl, h'⟩ := w1
  exact recApart_at r s m k w h h'
end Go.Proofs.Ythbaoljghofkoaa
