/- rec: Turned. Conditions: the change lies there. -/
import Derived.Test.YthbaoljghofkoaaRecH
namespace Go.Proofs.Ythbaoljghofkoaa
open Go.ChangeShapes Go.WideShapes Go.ChangeAt Go.RowKit
open NumMath
set_option linter.unusedVariables false
set_option linter.unusedSimpArgs false
set_option maxRecDepth 20000

theorem only6 {w w3 : World} {g : Nat} (h : Only (fun b => b = g) w w3) (v0 v1 v2 v3 v4 v5 : Value) : Only (fun b => b = g) w ((((((w3.setCell ⟨g, 0, none⟩ v0).setCell ⟨g, 1, none⟩ v1).setCell ⟨g, 2, none⟩ v2).setCell ⟨g, 3, none⟩ v3).setCell ⟨g, 4, none⟩ v4).setCell ⟨g, 5, none⟩ v5) :=
  (((((h.setCell (p := ⟨g, 0, none⟩) (.inl rfl) v0).setCell (p := ⟨g, 1, none⟩) (.inl rfl) v1).setCell (p := ⟨g, 2, none⟩) (.inl rfl) v2).setCell (p := ⟨g, 3, none⟩) (.inl rfl) v3).setCell (p := ⟨g, 4, none⟩) (.inl rfl) v4).setCell (p := ⟨g, 5, none⟩) (.inl rfl) v5
def turnP (c : ChgP) : ChgP := ⟨c.page, c.slot, c.has, c.had, c.after, c.before⟩
def TurnPost (c : ChgP) (w : World) (e : Ending) (w' : World) : Prop := Below w.heap.size w w' ∧ ∃ m, e = .returned (.agg (chgV (turnP c) m)) ∧ ChgNew w w' (turnP c) m
set_option maxHeartbeats 8000000 in
theorem turned_any (c : ChgP) (m : ChgM) (B : Nat) (w : World) (h : ChgAt w B c m) (hB : B ≤ w.heap.size) (h1 : c.before.length ≤ 1000) (h2 : c.after.length ≤ 1000) :
    Calls Try.prog 18 #[.agg (chgV c m)] w (TurnPost c w) := by
  have kb := (Blk.new w 27 (chgV c m)).alloc (.cells #[.int .u32 0, .int .u16 0, .bool false, .bool false, .slice none 0 0, .slice none 0 0] 27)
  have kz := Blk.new (w.alloc (.cells (chgV c m) 27)) 27 #[.int .u32 0, .int .u16 0, .bool false, .bool false, .slice none 0 0, .slice none 0 0]
  have b1 := below_alloc w (.cells (chgV c m) 27)
  have b2 := b1.alloc b1.size (.cells #[.int .u32 0, .int .u16 0, .bool false, .bool false, .slice none 0 0, .slice none 0 0] 27)
  rw [World.size_alloc] at kz
  have hc1 := h.below (b2.mono hB)
  go_enter Try.func18, Try.ntmps18
  go_upto_region 1 with fail
  generalize World.alloc (World.alloc w _) _ = w1 at *
  have hg2w := kz.lt
  have hww := b2.size
  have hgg : w.heap.size ≤ w.heap.size + 1 := by omega
  have hne : w.heap.size ≠ w.heap.size + 1 := by omega
  generalize w.heap.size + 1 = g2 at *
  have hS : Hid (∀ W, Only (fun b => b = g2) w1 W → W.cell? ⟨w.heap.size, 0, none⟩ = some (.int .u32 (c.page : Nat)) ∧ W.cell? ⟨w.heap.size, 1, none⟩ = some (.int .u16 (c.slot : Nat)) ∧ W.cell? ⟨w.heap.size, 2, none⟩ = some (.bool c.had) ∧ W.cell? ⟨w.heap.size, 3, none⟩ = some (.bool c.has) ∧ W.cell? ⟨w.heap.size, 4, none⟩ = some (.slice m.A1 c.before.length m.c1) ∧ W.cell? ⟨w.heap.size, 5, none⟩ = some (.slice m.A2 c.after.length m.c2)) := Lib.hid fun W hW => by
    have k := kb.only hW hne
    exact ⟨k.cell 0, k.cell 1, k.cell 2, k.cell 3, k.cell 4, k.cell 5⟩
  have O1 : Only (fun b => b = g2) w1 w1.drew := Only.of_below (below_drew0 w1) _
  have hBw : B ≤ w1.heap.size := Nat.le_trans hB hww
  have cl1 := clone_any m.A2 m.c2 c.after B w1.drew (hc1.aft.below (below_drew0 w1 |>.mono hBw)) hBw (by omega)
  have HC := Lib.hid hc1
  have HB2 := Lib.hid b2
  clear kb b1 b2 hc1 h
  have FIN : Hid (∀ w2 w3 A2 c2 A3 c3, Below w1.heap.size w1 w2 → Below w2.heap.size w2 w3 → w2.ownsRow w1.heap.size 5 1 (.slice A2 c.after.length c2) c.after.length (c.after.map byteV) → w3.ownsRow w2.heap.size 5 1 (.slice A3 c.before.length c3) c.before.length (c.before.map byteV) →
      Blk (w3.setCells g2 0 (chgV (turnP c) ⟨A2, c2, A3, c3⟩).toList) g2 27 (chgV (turnP c) ⟨A2, c2, A3, c3⟩) ∧ TurnPost c w (.returned (.agg (chgV (turnP c) ⟨A2, c2, A3, c3⟩))) (w3.setCells g2 0 (chgV (turnP c) ⟨A2, c2, A3, c3⟩).toList)) := Lib.hid fun w2 w3 A2 c2 A3 c3 q2 q3 o2 o3 => by
    have k3 := (kz.below q2 hg2w).below q3 (Nat.lt_of_lt_of_le hg2w q2.size)
    have k4 : Blk (w3.setCells g2 0 (chgV (turnP c) ⟨A2, c2, A3, c3⟩).toList) g2 27 (chgV (turnP c) ⟨A2, c2, A3, c3⟩) := ((((((k3.set_ 0 _).set_ 1 _).set_ 2 _).set_ 3 _).set_ 4 _).set_ 5 _)
    have hO := setCells_only w3 g2 (chgV (turnP c) ⟨A2, c2, A3, c3⟩).toList 0
    have hw3 := (HB2.out.trans (q2.mono hww)).trans (q3.mono (Nat.le_trans hww q2.size))
    have o2' := kept_none (below_none q3) o2
    have keep : ∀ {base A n cc xs}, w3.ownsRow base 5 1 (.slice A n cc) n xs → (w3.setCells g2 0 (chgV (turnP c) ⟨A2, c2, A3, c3⟩).toList).ownsRow base 5 1 (.slice A n cc) n xs := fun o => hO.own o fun k hk e => by
      rcases own_block (by decide) o k3 with z | z
      · rw [z] at hk; cases hk
      · rw [e] at hk; exact z hk
    exact ⟨k4, hw3.trans (hO.below hw3.size fun b q => by rw [q]; exact hgg), ⟨A2, c2, A3, c3⟩, rfl, ⟨own_base hww (keep o2'), own_base (Nat.le_trans hww q2.size) (keep o3), ⟨HC.out.fits.1, HC.out.fits.2.1, HC.out.fits.2.2.2, HC.out.fits.2.2.1⟩⟩⟩
  go_wp2_with fail
  go_region_held3 (fun W => W.cell? ⟨w.heap.size, 0, none⟩ = some (.int .u32 (c.page : Nat)) ∧ W.cell? ⟨w.heap.size, 1, none⟩ = some (.int .u16 (c.slot : Nat)) ∧ W.cell? ⟨w.heap.size, 2, none⟩ = some (.bool c.had) ∧ W.cell? ⟨w.heap.size, 3, none⟩ = some (.bool c.has) ∧ W.cell? ⟨w.heap.size, 4, none⟩ = some (.slice m.A1 c.before.length m.c1) ∧ W.cell? ⟨w.heap.size, 5, none⟩ = some (.slice m.A2 c.after.length m.c2))
    (first | with_reducible (exact hS.out _ O1) | with_reducible (exact hS.out _ O2) | with_reducible (exact hS.out _ O3) | with_reducible (exact hS.out _ (only6 O3 _ _ _ _ _ _)) | fail)
    (first
      | ((with_reducible refine cl2.mono ?_); rintro e w3 ⟨A3, c3, rfl, o3, b3, s3⟩; have O3 : Only (fun b => b = g2) w1 w3 := O2.trans (Only.of_below b3 _) (fun b q => .inl q); have k3 := (kz.below q2 hg2w).below b3 (Nat.lt_of_lt_of_le hg2w b2.size); have y0 := k3.cell 0; have y1 := k3.cell 1; have y2 := k3.cell 2; have y3 := k3.cell 3; have y4 := k3.cell 4; have y5 := k3.cell 5; have x0 := k3.frozen 0; have x1 := k3.frozen 1; have x2 := k3.frozen 2; have x3 := k3.frozen 3; have x4 := k3.frozen 4; have x5 := k3.frozen 5; clear cl2)
      | ((with_reducible refine cl1.mono ?_); rintro e w2 ⟨A2, c2, rfl, o2, b2, s2⟩; have q2 := (below_drew0 w1).trans b2; have O2 : Only (fun b => b = g2) w1 w2 := O1.trans (Only.of_below b2 _) (fun b q => .inl q); have cl2 := clone_any m.A1 m.c1 c.before B w2 (HC.out.bef.below (((below_drew0 w1).trans b2).mono hBw)) (Nat.le_trans hBw b2.size) (Nat.le_trans h1 (by decide)); clear cl1)
      | fail)
  have F := Lib.hid (FIN.out w2 w3 A2 c2 A3 c3 q2 b3 o2 o3)
  clear FIN q2 b3 o2 o3 k3 O1 O2 O3 hS HC HB2
  go_wp2
  refine bodyPost_ret (results_cell_row rfl _ _ g2 27 _ (0, 0) _ rfl F.out.1 Try.underlying27 rfl size_chg) rfl ?_
  exact F.out.2
end Go.Proofs.Ythbaoljghofkoaa
