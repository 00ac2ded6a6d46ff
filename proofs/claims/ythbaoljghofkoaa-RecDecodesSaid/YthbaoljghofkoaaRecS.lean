/- rec's document: SameChange, Turned. Conditions: the changes lie there. -/
import Derived.Test.YthbaoljghofkoaaRecU
import Derived.Test.YthbaoljghofkoaaRB
namespace Go.Proofs.Ythbaoljghofkoaa
open Go.ChangeShapes Go.WideShapes Go.ChangeAt Go.RowKit
open NumMath
set_option linter.unusedVariables false
set_option linter.unusedSimpArgs false
set_option maxRecDepth 20000

def sameC (c d : ChgP) : Bool := c.page == d.page && c.slot == d.slot && c.had == d.had && c.has == d.has && decide (c.before = d.before) && decide (c.after = d.after)
theorem sameC_iff (c d : ChgP) : sameC c d = true ↔ c = d := by
  obtain ⟨a1, a2, a3, a4, a5, a6⟩ := c
  obtain ⟨b1, b2, b3, b4, b5, b6⟩ := d
  simp [sameC, and_assoc]
set_option maxHeartbeats 8000000 in
theorem sameChange_any (c d : ChgP) (m k : ChgM) (B : Nat) (w : World) (h : ChgAt w B c m) (h' : ChgAt w B d k) (hB : B ≤ w.heap.size) :
    Calls Try.prog 19 #[.agg (chgV c m), .agg (chgV d k)] w fun e w' => e = .returned (.bool (sameC c d)) ∧ Below w.heap.size w w' := by
  have k1 := ChgBox.of ((Blk.new w 27 (chgV c m)).alloc (.cells (chgV d k) 27))
  have k2 := Blk.new (w.alloc (.cells (chgV c m) 27)) 27 (chgV d k)
  have b1 := below_alloc w (.cells (chgV c m) 27)
  have b2 := b1.alloc b1.size (.cells (chgV d k) 27)
  rw [World.size_alloc] at k2
  have k2 := ChgBox.of k2
  have hc := h.below (b2.mono hB)
  have hd := h'.below (b2.mono hB)
  have HB := Lib.hid b2
  go_enter Try.func19, Try.ntmps19
  go_upto_region 1 with fail
  generalize World.alloc (World.alloc w _) _ = w1 at *
  have r1 := run_bytes_str (P := Try.prog) hc.bef 25 9 5 Try.underlying25 Try.underlying5 Try.underlying9 m.c1
  have r2 := run_bytes_str (P := Try.prog) hc.aft 25 9 5 Try.underlying25 Try.underlying5 Try.underlying9 m.c2
  have r3 := run_bytes_str (P := Try.prog) hd.bef 25 9 5 Try.underlying25 Try.underlying5 Try.underlying9 k.c1
  have r4 := run_bytes_str (P := Try.prog) hd.aft 25 9 5 Try.underlying25 Try.underlying5 Try.underlying9 k.c2
  have e5 := strB_beq hc.bef.2 hd.bef.2
  have e6 := strB_beq hc.aft.2 hd.aft.2
  obtain ⟨q0, q1, q2, q3, q4, q5⟩ := k1
  obtain ⟨p0, p1, p2, p3, p4, p5⟩ := k2
  have t1 := beq_nat c.page d.page
  have t2 := beq_nat c.slot d.slot
  have HS : Hid (sameC c d = (c.page == d.page && c.slot == d.slot && c.had == d.had && c.has == d.has && decide (c.before = d.before) && decide (c.after = d.after))) := Lib.hid rfl
  clear b1 b2 hc hd h h'
  generalize (c.page == d.page) = x1 at *
  generalize (c.slot == d.slot) = x2 at *
  generalize hx3 : (c.had == d.had) = x3 at *
  generalize hx4 : (c.has == d.has) = x4 at *
  generalize decide (c.before = d.before) = x5 at *
  generalize decide (c.after = d.after) = x6 at *
  cases x1
  · go_wp2
    go_ret
    exact ⟨by rw [HS.out]; rfl, HB.out⟩
  cases x2
  · go_wp2
    go_ret
    exact ⟨by rw [HS.out]; rfl, HB.out⟩
  cases x3
  · go_wp2
    go_ret
    exact ⟨by rw [HS.out]; rfl, HB.out⟩
  cases x4
  · go_wp2
    go_ret
    exact ⟨by rw [HS.out]; rfl, HB.out⟩
  cases x5
  · go_wp2
    go_ret
    exact ⟨by rw [HS.out]; rfl, HB.out⟩
  go_wp2
  go_ret
  exact ⟨by rw [HS.out]; rfl, HB.out⟩
set_option maxHeartbeats 8000000 in
theorem refTurned_any (c : ChgP) (m : ChgM) (B : Nat) (w : World) (h : ChgAt w B c m) (hB : B ≤ w.heap.size) (h1 : c.before.length ≤ 1000) (h2 : c.after.length ≤ 1000) :
    Calls Try.prog 20 #[.agg (chgV c m)] w (TurnPost c w) := by
  have kb := (Blk.new w 27 (chgV c m)).alloc (.cells #[.int .u32 0, .int .u16 0, .bool false, .bool false, .slice none 0 0, .slice none 0 0] 27)
  have kz := Blk.new (w.alloc (.cells (chgV c m) 27)) 27 #[.int .u32 0, .int .u16 0, .bool false, .bool false, .slice none 0 0, .slice none 0 0]
  have b1 := below_alloc w (.cells (chgV c m) 27)
  have b2 := b1.alloc b1.size (.cells #[.int .u32 0, .int .u16 0, .bool false, .bool false, .slice none 0 0, .slice none 0 0] 27)
  rw [World.size_alloc] at kz
  have hc1 := h.below (b2.mono hB)
  go_enter Try.func20, Try.ntmps20
  go_upto_region 2 with fail
  generalize World.alloc (World.alloc w _) _ = w1 at *
  have hg2w := kz.lt
  have hww := b2.size
  have hgg : w.heap.size ≤ w.heap.size + 1 := by omega
  have hne : w.heap.size ≠ w.heap.size + 1 := by omega
  generalize w.heap.size + 1 = g2 at *
  have hBw : B ≤ w1.heap.size := Nat.le_trans hB hww
  have q5 : w1.cell? ⟨w.heap.size, 5, none⟩ = some (.slice m.A2 c.after.length m.c2) := kb.cell 5
  have HC := Lib.hid hc1
  have HB2 := Lib.hid b2
  have HKB := Lib.hid kb
  have HKZ := Lib.hid kz
  have ba := hc1.aft
  have r0 := RB.start w1
  have hkl := kb.lt
  clear kb kz b1 b2 hc1 h
  go_upto_region 3 with (at_builtin; refine wpList_append_rb rfl _ _ 25 25 rfl Try.underlying25 Try.underlying25 r0 rfl B m.A2 c.after.length m.c2 c.after rfl ba rfl (by omega) ?_; intro A2 c2 w2 r2; clear r0 q5 ba)
  rw [Nat.zero_add, List.nil_append] at *
  have hb12 : Below w1.heap.size w1 w2 := r2.2.1
  have q4 : w2.cell? ⟨w.heap.size, 4, none⟩ = some (.slice m.A1 c.before.length m.c1) := (hb12.cell (p := ⟨w.heap.size, 4, none⟩) hkl).trans (HKB.out.cell 4)
  have ba := HC.out.bef.below (hb12.mono hBw)
  have r0 := RB.start w2
  have R2 := Lib.hid r2
  have HB12 := Lib.hid hb12
  clear r2 hb12
  go_upto_region 4 with (at_builtin; refine wpList_append_rb rfl _ _ 25 25 rfl Try.underlying25 Try.underlying25 r0 rfl B m.A1 c.before.length m.c1 c.before rfl ba rfl (by omega) ?_; intro A3 c3 w3 r3; clear r0 q4 ba)
  rw [Nat.zero_add, List.nil_append] at *
  have hb23 : Below w2.heap.size w2 w3 := r3.2.1
  have hb13 := HB12.out.trans (hb23.mono HB12.out.size)
  have k := HKB.out.below hb13 hkl
  have q0 : w3.cell? ⟨w.heap.size, 0, none⟩ = some (.int .u32 (c.page : Nat)) := k.cell 0
  have q1 : w3.cell? ⟨w.heap.size, 1, none⟩ = some (.int .u16 (c.slot : Nat)) := k.cell 1
  have q2 : w3.cell? ⟨w.heap.size, 2, none⟩ = some (.bool c.had) := k.cell 2
  have q3 : w3.cell? ⟨w.heap.size, 3, none⟩ = some (.bool c.has) := k.cell 3
  have k3 := HKZ.out.below hb13 hg2w
  have st := store_chg_all k3 rfl (turnP c) ⟨A2, c2, A3, c3⟩
  have hO := only_row w3 g2 (chgV (turnP c) ⟨A2, c2, A3, c3⟩)
  have K4 := Lib.hid (row_blk k3 (chgV (turnP c) ⟨A2, c2, A3, c3⟩))
  have keep : ∀ {base A n cc xs}, w3.ownsRow base 5 1 (.slice A n cc) n xs → (w3.setRow g2 (chgV (turnP c) ⟨A2, c2, A3, c3⟩)).ownsRow base 5 1 (.slice A n cc) n xs := fun o => hO.own o fun k hk e => by
    rcases own_block (by decide) o k3 with z | z
    · rw [z] at hk; cases hk
    · rw [e] at hk; exact z hk
  have hw3 := HB2.out.trans (hb13.mono hww)
  have F : Hid (TurnPost c w (.returned (.agg (chgV (turnP c) ⟨A2, c2, A3, c3⟩))) (w3.setRow g2 (chgV (turnP c) ⟨A2, c2, A3, c3⟩))) := Lib.hid
    ⟨hw3.trans (hO.below hw3.size fun b q => by rw [q]; exact hgg), ⟨A2, c2, A3, c3⟩, rfl, ⟨own_base hww (keep (kept_none (below_none hb23) R2.out.1)), own_base (Nat.le_trans hww HB12.out.size) (keep r3.1), ⟨HC.out.fits.1, HC.out.fits.2.1, HC.out.fits.2.2.2, HC.out.fits.2.2.1⟩⟩⟩
  clear hb13 hb23 k k3 hO keep hw3 R2 r3 HB12 HKB HKZ HC HB2
  go_wp2_with (refine wpList_store_run rfl 27 (.tmp 2) (.tmp 23) _ _ rfl rfl rfl st ?_; clear st)
  refine bodyPost_ret (results_cell_row rfl _ _ g2 27 _ (0, 0) _ rfl K4.out Try.underlying27 rfl size_chg) rfl ?_
  exact F.out
end Go.Proofs.Ythbaoljghofkoaa
