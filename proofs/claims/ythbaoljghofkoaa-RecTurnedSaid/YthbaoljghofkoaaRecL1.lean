/- RecTurned: the law's walk. Conditions: the change lies there. -/
import Derived.Test.YthbaoljghofkoaaRecS
import Derived.Test.YthbaoljghofkoaaRecOp
import Derived.Laws.OwnMore
import Derived.StillTailTactics
namespace Go.Proofs.Ythbaoljghofkoaa
open Go.ChangeShapes Go.WideShapes Go.ChangeAt Go.RowKit
open NumMath
set_option linter.unusedVariables false
set_option linter.unusedSimpArgs false
set_option maxRecDepth 20000

theorem store_chg_new (w : World) (c : ChgP) (m : ChgM) : (Instr.storeAt 27 (.pointer (some ⟨w.heap.size, 0, none⟩)) (.agg (chgV c m))).run Try.prog (w.alloc (.cells #[.int .u32 0, .int .u16 0, .bool false, .bool false, .slice none 0 0, .slice none 0 0] 27)) = .ok () (w.alloc (.cells (chgV c m) 27)) := store_chg w c m
theorem sameChange_same (c : ChgP) (m k : ChgM) (B : Nat) (w : World) (h : ChgAt w B c m) (h' : ChgAt w B c k) (hB : B ≤ w.heap.size) :
    Calls Try.prog 19 #[.agg (chgV c m), .agg (chgV c k)] w fun e w' => e = .returned (.bool true) ∧ Below w.heap.size w w' := by
  have := sameChange_any c c m k B w h h' hB
  rwa [(sameC_iff c c).2 rfl] at this
set_option maxHeartbeats 16000000 in
theorem recTurned_at (c : ChgP) (m : ChgM) (w : World) (h : ChgAt w w.heap.size c m) :
    Calls Try.prog 8 #[.agg (chgV c m)] w fun e w' => e = .returned (.bool true) ∧ Below w.heap.size w w' := by
  have H0 := Lib.hid h
  have kb := Blk.new w 27 (chgV c m)
  have b1 := below_alloc w (.cells (chgV c m) 27)
  go_enter Try.func8, Try.ntmps8
  go_upto_region 1 with fail
  generalize World.alloc w _ = w1 at *
  have hl := kb.lt
  have q4 : w1.cell? ⟨w.heap.size, 4, none⟩ = some (.slice m.A1 c.before.length m.c1) := kb.cell 4
  have q5 : w1.cell? ⟨w.heap.size, 5, none⟩ = some (.slice m.A2 c.after.length m.c2) := kb.cell 5
  have kn := known_any w1
  have HB1 := Lib.hid b1
  rcases Nat.lt_or_ge 200 c.before.length with z | z
  · have t1 : decide ((200 : Int) < (c.before.length : Int)) = true := by rw [decide_eq_true_iff]; omega
    clear z kb
    go_wp2_with fail
    refine kn.mono ?_
    rintro e w2 ⟨rfl, b2⟩
    have FIN := Lib.hid (HB1.out.trans (b2.mono HB1.out.size))
    clear kn b2
    go_wp2
    go_ret
    exact ⟨rfl, FIN.out⟩
  have t1 : decide ((200 : Int) < (c.before.length : Int)) = false := by rw [decide_eq_false_iff_not]; omega
  rcases Nat.lt_or_ge 200 c.after.length with z2 | z2
  · have t2 : decide ((200 : Int) < (c.after.length : Int)) = true := by rw [decide_eq_true_iff]; omega
    clear z z2 kb
    go_wp2_with fail
    refine kn.mono ?_
    rintro e w2 ⟨rfl, b2⟩
    have FIN := Lib.hid (HB1.out.trans (b2.mono HB1.out.size))
    clear kn b2
    go_wp2
    go_ret
    exact ⟨rfl, FIN.out⟩
  have t2 : decide ((200 : Int) < (c.after.length : Int)) = false := by rw [decide_eq_false_iff_not]; omega
  have HC := Lib.hid (h.below b1)
  have HZ := Lib.hid (And.intro z z2)
  clear h b1 z z2
  go_wp2_with fail
  refine kn.mono ?_
  rintro e w2 ⟨rfl, b2⟩
  clear kn q4 q5
  have kb2 := kb.below b2 hl
  have hw12 := b2.size
  have hC2 := HC.out.below (b2.mono HB1.out.size)
  have hB2 := HB1.out.trans (b2.mono HB1.out.size)
  have ld := load_chg0 kb2
  have ct := turned_any c m w.heap.size w2 hC2 hB2.size (Nat.le_trans HZ.out.1 (by decide)) (Nat.le_trans HZ.out.2 (by decide))
  have HB2 := Lib.hid hB2
  clear b2 kb hC2 hB2 t1 t2
  go_wp2_with (refine wpList_load_run rfl 27 (.tmp 1) _ _ rfl rfl ld ?_; clear ld)
  refine ct.mono ?_
  rintro e w3 ⟨b3, m2, rfl, hN⟩
  have st := store_chg_new w3 (turnP c) m2
  have k3 := Blk.new w3 27 (chgV (turnP c) m2)
  have b4 := below_alloc w3 (.cells (chgV (turnP c) m2) 27)
  have kb4 := (kb2.below b3 kb2.lt).alloc (.cells (chgV (turnP c) m2) 27)
  have hB3 := HB2.out.trans (b3.mono HB2.out.size)
  have hB4 := hB3.trans (b4.mono hB3.size)
  have hN4 := hN.at_.below b4
  have o1 : (w3.alloc (.cells (chgV (turnP c) m2) 27)).ownsRow w2.heap.size 5 1 (.slice m2.A2 c.before.length m2.c2) c.before.length (c.before.map byteV) := kept_none (below_none b4) hN.o2
  have hw23 := b3.size
  have hsz : w3.heap.size ≤ (w3.alloc (.cells (chgV (turnP c) m2) 27)).heap.size := b4.size
  clear ct b3 b4 hB3 hN kb2
  go_upto_region 4 with (refine wpList_store_run rfl 27 (.tmp 3) (.tmp 23) _ _ rfl rfl rfl st ?_; clear st)
  generalize World.alloc w3 _ = w4 at *
  have hg3 := k3.lt
  have hg1 := kb4.lt
  have hdo : Below w4.heap.size w4 w4.drew := below_drew0 w4
  have hS : Hid (∀ W, Below w4.heap.size w4 W → ((W.cell? ⟨w3.heap.size, 0, none⟩ = some (.int .u32 (c.page : Nat)) ∧ W.cell? ⟨w3.heap.size, 1, none⟩ = some (.int .u16 (c.slot : Nat)) ∧ W.cell? ⟨w3.heap.size, 2, none⟩ = some (.bool c.has) ∧ W.cell? ⟨w3.heap.size, 3, none⟩ = some (.bool c.had) ∧ W.cell? ⟨w3.heap.size, 4, none⟩ = some (.slice m2.A1 c.after.length m2.c1) ∧ W.cell? ⟨w3.heap.size, 5, none⟩ = some (.slice m2.A2 c.before.length m2.c2)) ∧
      (W.cell? ⟨w.heap.size, 0, none⟩ = some (.int .u32 (c.page : Nat)) ∧ W.cell? ⟨w.heap.size, 1, none⟩ = some (.int .u16 (c.slot : Nat)) ∧ W.cell? ⟨w.heap.size, 2, none⟩ = some (.bool c.had) ∧ W.cell? ⟨w.heap.size, 3, none⟩ = some (.bool c.has) ∧ W.cell? ⟨w.heap.size, 4, none⟩ = some (.slice m.A1 c.before.length m.c1) ∧ W.cell? ⟨w.heap.size, 5, none⟩ = some (.slice m.A2 c.after.length m.c2)))) := Lib.hid fun W hW => by
    have a := k3.below hW hg3
    have b := kb4.below hW hg1
    exact ⟨⟨a.cell 0, a.cell 1, a.cell 2, a.cell 3, a.cell 4, a.cell 5⟩, ⟨b.cell 0, b.cell 1, b.cell 2, b.cell 3, b.cell 4, b.cell 5⟩⟩
  have hC4 := H0.out.below hB4
  have hBw : w.heap.size ≤ w4.heap.size := hB4.size
  have D26 : Calls Try.prog 20 #[.agg #[.int .u32 (c.page : Nat), .int .u16 (c.slot : Nat), .bool c.had, .bool c.has, .slice m.A1 c.before.length m.c1, .slice m.A2 c.after.length m.c2]] w4.drew (TurnPost c w4.drew) := refTurned_any c m w.heap.size w4.drew (hC4.below (hdo.mono hBw)) hBw (Nat.le_trans HZ.out.1 (by decide)) (Nat.le_trans HZ.out.2 (by decide))
  have HN4 := Lib.hid hN4
  have HC4 := Lib.hid hC4
  have hZ1 : c.after.length ≤ 1000 := Nat.le_trans HZ.out.2 (by decide)
  have hZ2 : c.before.length ≤ 1000 := Nat.le_trans HZ.out.1 (by decide)
  go_wp2_with fail
  go_region_held3 (fun W => (W.cell? ⟨w3.heap.size, 0, none⟩ = some (.int .u32 (c.page : Nat)) ∧ W.cell? ⟨w3.heap.size, 1, none⟩ = some (.int .u16 (c.slot : Nat)) ∧ W.cell? ⟨w3.heap.size, 2, none⟩ = some (.bool c.has) ∧ W.cell? ⟨w3.heap.size, 3, none⟩ = some (.bool c.had) ∧ W.cell? ⟨w3.heap.size, 4, none⟩ = some (.slice m2.A1 c.after.length m2.c1) ∧ W.cell? ⟨w3.heap.size, 5, none⟩ = some (.slice m2.A2 c.before.length m2.c2)) ∧
      (W.cell? ⟨w.heap.size, 0, none⟩ = some (.int .u32 (c.page : Nat)) ∧ W.cell? ⟨w.heap.size, 1, none⟩ = some (.int .u16 (c.slot : Nat)) ∧ W.cell? ⟨w.heap.size, 2, none⟩ = some (.bool c.had) ∧ W.cell? ⟨w.heap.size, 3, none⟩ = some (.bool c.has) ∧ W.cell? ⟨w.heap.size, 4, none⟩ = some (.slice m.A1 c.before.length m.c1) ∧ W.cell? ⟨w.heap.size, 5, none⟩ = some (.slice m.A2 c.after.length m.c2)))
    (first | with_reducible (exact hS.out _ hdo) | with_reducible (exact hS.out _ B5) | with_reducible (exact hS.out _ B6) | with_reducible (exact hS.out _ B7) | with_reducible (exact hS.out _ B8) | fail)
    (first
      | ((with_reducible refine D32.mono ?_); rintro e w8 ⟨rfl, b8⟩; have B8 : Below w4.heap.size w4 w8 := B7.trans (b8.mono B7.size); clear D32)
      | ((with_reducible refine D30.mono ?_); rintro e w7 ⟨b7, m7, rfl, n7⟩; have B7 : Below w4.heap.size w4 w7 := B6.trans (b7.mono B6.size); have D32 : Calls Try.prog 19 #[.agg (chgV (turnP (turnP c)) m7), .agg #[.int .u32 (c.page : Nat), .int .u16 (c.slot : Nat), .bool c.had, .bool c.has, .slice m.A1 c.before.length m.c1, .slice m.A2 c.after.length m.c2]] w7 (fun e w' => e = .returned (.bool true) ∧ Below w7.heap.size w7 w') := sameChange_same c m7 m w7.heap.size w7 n7.at_ ((HC4.out.below (B7.mono hBw)).more (Nat.le_trans hBw B7.size)) (Nat.le_refl _); clear D30)
      | ((with_reducible refine D27.mono ?_); rintro e w6 ⟨rfl, b6⟩; have B6 : Below w4.heap.size w4 w6 := B5.trans (b6.mono B5.size); have D30 : Calls Try.prog 18 #[.agg #[.int .u32 (c.page : Nat), .int .u16 (c.slot : Nat), .bool c.has, .bool c.had, .slice m2.A1 c.after.length m2.c1, .slice m2.A2 c.before.length m2.c2]] w6 (TurnPost (turnP c) w6) := turned_any (turnP c) m2 w3.heap.size w6 (HN4.out.below (B6.mono hsz)) (Nat.le_trans hsz B6.size) hZ1 hZ2; clear D27)
      | ((with_reducible refine D26.mono ?_); rintro e w5 ⟨b5, m6, rfl, n6⟩; have B5 : Below w4.heap.size w4 w5 := hdo.trans b5; have D27 : Calls Try.prog 19 #[.agg #[.int .u32 (c.page : Nat), .int .u16 (c.slot : Nat), .bool c.has, .bool c.had, .slice m2.A1 c.after.length m2.c1, .slice m2.A2 c.before.length m2.c2], .agg (chgV (turnP c) m6)] w5 (fun e w' => e = .returned (.bool true) ∧ Below w5.heap.size w5 w') := sameChange_same (turnP c) m2 m6 w5.heap.size w5 ((HN4.out.below (B5.mono hsz)).more (Nat.le_trans hsz B5.size)) n6.at_ (Nat.le_refl _); clear D26)
      | fail)
  have k8 := k3.below B8 hg3
  have kb8 := kb4.below B8 hg1
  have o8 := kept_none (below_none B8) o1
  have hlt8 : ∀ k, (Value.slice m2.A2 c.before.length m2.c2).ownBlock = some k → k < w8.heap.size := fun k hk => (o8.lt k hk).2
  have hB8 := hB4.trans (B8.mono hBw)
  have hsz8 : w3.heap.size < w8.heap.size := k8.lt
  have hw1 : w.heap.size ≤ w2.heap.size := HB2.out.size
  clear hS HN4 HC4 B5 B6 B7 B8 n6 n7 b5 b6 b7 b8 hdo k3 kb4 o1 hN4 hC4 hB4 HC HB1 HB2
  have q4 : w8.cell? ⟨w.heap.size, 4, none⟩ = some (.slice m.A1 c.before.length m.c1) := kb8.cell 4
  have cl := lent_any m.A1 m.c1 c.before w.heap.size w8 (H0.out.bef.below hB8) (Nat.le_trans hZ2 (by decide))
  go_wp2_with fail
  refine cl.mono ?_
  rintro e w9 ⟨A5, c5, rfl, o5, b9⟩
  have k9 := k8.below b9 k8.lt
  have kb9 := kb8.below b9 kb8.lt
  have o9 := kept_none (below_none b9) o8
  have hB9 := hB8.trans (b9.mono hB8.size)
  have hw9 := b9.size
  clear cl q4 k8 kb8 o8 b9 hB8
  have hne3 : ∀ k, (Value.slice m2.A2 c.before.length m2.c2).ownBlock = some k → k ≠ w3.heap.size ∧ k ≠ w.heap.size ∧ w.heap.size ≤ k ∧ k < w8.heap.size := fun k hk => by
    refine ⟨fun e => ?_, fun e => ?_, ?_, ?_⟩
    · rcases own_block (by decide) o9 k9 with z | z
      · exact absurd (z.symm.trans hk) (by simp)
      · rw [e] at hk; exact z hk
    · rcases own_block (by decide) o9 kb9 with z | z
      · exact absurd (z.symm.trans hk) (by simp)
      · rw [e] at hk; exact z hk
    · have := (o9.lt k hk).1; omega
    · exact hlt8 k hk
  have HNE := Lib.hid hne3
  have HO5 := Lib.hid o5
  have HB9 := Lib.hid hB9
  have HK9 := Lib.hid k9
  have HKB9 := Lib.hid kb9
  obtain ⟨n, hn⟩ : ∃ n, c.before.length = n := ⟨_, rfl⟩
  have HN := Lib.hid hn
  rw [hn] at o9
  have hq9 : w9.cell? ⟨w3.heap.size, 5, none⟩ = some (.slice m2.A2 n m2.c2) := by
    have : w9.cell? ⟨w3.heap.size, 5, none⟩ = some (.slice m2.A2 c.before.length m2.c2) := k9.cell 5
    rwa [hn] at this
  clear hne3 o5 hB9 k9 kb9 hlt8
  have hn200 : n ≤ 200 := by rw [← hn]; exact HZ.out.1
  clear hn hq9
  go_wp2_with fail
  go_loopw [6] (fun iv wr => ∃ (k : Nat) (L : List Value), k ≤ n ∧ iv = .int .i64 k ∧ wr.ownsRow w2.heap.size 5 1 (.slice m2.A2 n m2.c2) n L ∧ (∀ i, k ≤ i → L[i]? = (c.before.map byteV)[i]?) ∧ Only (fun b => (Value.slice m2.A2 n m2.c2).ownBlock = some b) w9 wr) (fun iv _ => n - (intOf iv).toNat)
  case atStart => exact ⟨0, _, Nat.zero_le _, rfl, o9, fun _ _ => rfl, Only.refl _ _⟩
  case round =>
    clear o9
    obtain ⟨k, L, hkn, rfl, ho, hL, hO⟩ := hrel
    have hcell : wr.cell? ⟨w3.heap.size, 5, none⟩ = some (.slice m2.A2 n m2.c2) := by
      have h9 := HK9.out.only hO (fun q => (HNE.out _ (by rw [HN.out]; exact q)).1 rfl)
      have : wr.cell? ⟨w3.heap.size, 5, none⟩ = some (.slice m2.A2 c.before.length m2.c2) := h9.cell 5
      rwa [HN.out] at this
    rcases Nat.lt_or_ge k n with hlt | hge
    · have e1 : decide ((k : Int) < (n : Int)) = true := by rw [decide_eq_true_iff]; omega
      have e2 : (0 : Int) ≤ (k : Int) := by omega
      have e3 : (k : Int) < (n : Int) := by omega
      obtain ⟨g, hA, hg1, hg2⟩ := own_pos ho (by omega)
      rw [hA] at ho hO hcell
      rw [hA]
      have hjp : k < c.before.length := by rw [HN.out]; exact hlt
      have hc := (ho.cellAt k (by omega)).trans ((hL k (Nat.le_refl _)).trans (List.getElem?_eq_getElem (by simpa using hjp)))
      rw [List.getElem_map] at hc
      obtain ⟨y, hy⟩ : ∃ y, c.before[k] = y := ⟨_, rfl⟩
      rw [hy] at hc
      have hz := ho.frozenAt k
      have hst : ∀ v, (wr.drew.setCell ⟨g, k, none⟩ v).ownsRow w2.heap.size 5 1 (.slice (some ⟨g, 0, none⟩) n m2.c2) n (L.set k v) ∧ (∀ i, k + 1 ≤ i → (L.set k v)[i]? = (c.before.map byteV)[i]?) ∧ Only (fun b => (Value.slice (some ⟨g, 0, none⟩) n m2.c2).ownBlock = some b) w9 (wr.drew.setCell ⟨g, k, none⟩ v) := fun v => ⟨((kept_none (below_none (below_drew0 wr)) ho).stored k v).1, fun i hi => by rw [List.getElem?_set_ne (by omega)]; exact hL i (by omega), (hO.drew).setCell (p := ⟨g, k, none⟩) (.inl rfl) v⟩
      have HST := Lib.hid hst
      clear hst hL hO ho hy
      unfold byteV at hc
      go_upto_region 9 with fail
      go_still_tail 10, (by kernel_rfl)
      change wpList _ _ _ _ _ wr.drew
      go_wp2
      go_roundw
      case rel => exact ⟨k + 1, _, by omega, by go_num, HST.out _⟩
      case measure => simp [intOf]; omega
    · obtain rfl : k = n := by omega
      have e1 : decide ((k : Int) < (k : Int)) = false := by rw [decide_eq_false_iff_not]; omega
      have hkb := HKB9.out.only hO (fun q => (HNE.out _ (by rw [HN.out]; exact q)).2.1 rfl)
      have q4 : wr.cell? ⟨w.heap.size, 4, none⟩ = some (.slice m.A1 c.before.length m.c1) := hkb.cell 4
      have hBr : Below w.heap.size w wr := HB9.out.trans (hO.below HB9.out.size fun b q => (HNE.out b (by rw [HN.out]; exact q)).2.2.1)
      have o5 := hO.own HO5.out fun b hb hk => by
        have h1 := (HNE.out b (by rw [HN.out]; exact hk)).2.2.2
        have h2 := (HO5.out.lt b hb).1
        omega
      have cs := same_any A5 m.A1 c5 m.c1 c.before c.before wr.heap.size wr (own_bytes o5 H0.out.bef.2) ((H0.out.bef.below hBr).more hBr.size)
      rw [decide_eq_true (rfl : c.before = c.before)] at cs
      have FIN := Lib.hid hBr
      clear hkb o5 hBr ho hL hO
      go_wp2_with fail
      refine cs.mono ?_
      rintro e wz ⟨rfl, rfl⟩
      clear cs
      go_wp2
      go_ret
      exact ⟨rfl, FIN.out⟩
theorem recTurned_walk (v0 : Value) (w : World) (w0 : IsChange w v0) :
    Calls Try.prog 8 #[v0] w fun e w' => e = .returned (.bool true) ∧ Below w.heap.size w w' := by
  obtain ⟨c, m, rfl, h⟩ := w0
  exact recTurned_at c m w h
end Go.Proofs.Ythbaoljghofkoaa
