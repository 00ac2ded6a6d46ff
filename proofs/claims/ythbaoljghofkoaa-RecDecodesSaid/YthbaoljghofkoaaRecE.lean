/- rec: changes, mayChange, flags, may. Conditions: the record's numbers fit. -/
import Derived.Test.YthbaoljghofkoaaRecV
import Derived.Test.YthbaoljghofkoaaBlks
import Derived.Deep.DeepCutAuto
namespace Go.Proofs.Ythbaoljghofkoaa
open Go.ChangeShapes Go.WideShapes Go.ChangeAt Go.RowKit
open NumMath
set_option linter.unusedVariables false
set_option linter.unusedSimpArgs false
set_option maxRecDepth 20000

theorem rec_cells (r : RecP) (m : RecMm) : (recA r m).size = 12 := rfl
/-- a boxed record's cells -/
structure RecBox (w : World) (g : Nat) (r : RecP) (m : RecMm) : Prop where
  k0 : w.cell? ⟨g, 0, none⟩ = some (.int .u8 (r.kind : Nat))
  k1 : w.cell? ⟨g, 1, none⟩ = some (.int .u32 (r.txn : Nat))
  k2 : w.cell? ⟨g, 2, none⟩ = some (.int .u64 (r.prev : Nat))
  k3 : w.cell? ⟨g, 3, none⟩ = some (.int .u64 (r.next : Nat))
  k4 : w.cell? ⟨g, 4, none⟩ = some (.int .u32 (r.chg.page : Nat))
  k5 : w.cell? ⟨g, 5, none⟩ = some (.int .u16 (r.chg.slot : Nat))
  k6 : w.cell? ⟨g, 6, none⟩ = some (.bool r.chg.had)
  k7 : w.cell? ⟨g, 7, none⟩ = some (.bool r.chg.has)
  k8 : w.cell? ⟨g, 8, none⟩ = some (.slice m.cm.A1 r.chg.before.length m.cm.c1)
  k9 : w.cell? ⟨g, 9, none⟩ = some (.slice m.cm.A2 r.chg.after.length m.cm.c2)
  k10 : w.cell? ⟨g, 10, none⟩ = some (.slice m.A3 r.txns.length m.c3)
  k11 : w.cell? ⟨g, 11, none⟩ = some (.slice m.A4 r.pages.length m.c4)
theorem RecBox.of {w : World} {g : Nat} {r : RecP} {m : RecMm} (h : Blk w g 31 (recA r m)) : RecBox w g r m :=
  ⟨h.cell 0, h.cell 1, h.cell 2, h.cell 3, h.cell 4, h.cell 5, h.cell 6, h.cell 7, h.cell 8, h.cell 9, h.cell 10, h.cell 11⟩
theorem RecBox.new (w : World) (r : RecP) (m : RecMm) : RecBox (w.alloc (.cells (recA r m) 31)) w.heap.size r m := RecBox.of (Blk.new w _ _)
theorem below_alloc (w : World) (o : Obj) : Below w.heap.size w (w.alloc o) := (Below.refl _ _).alloc (Nat.le_refl _) o
theorem chgs_cases (k : Nat) : (k = 2 ∧ chgs k = true) ∨ (k ≠ 2 ∧ k = 3 ∧ chgs k = true) ∨ (k ≠ 2 ∧ k ≠ 3 ∧ chgs k = false) := by
  unfold chgs
  by_cases h2 : k = 2
  · exact .inl ⟨h2, by simp [h2]⟩
  · by_cases h3 : k = 3
    · exact .inr (.inl ⟨h2, h3, by simp [h3]⟩)
    · exact .inr (.inr ⟨h2, h3, by simp [h2, h3]⟩)
theorem changes_any (r : RecP) (m : RecMm) (w : World) :
    Calls Try.prog 23 #[.agg (recA r m)] w fun e w' => e = .returned (.bool (chgs r.kind)) ∧ Below w.heap.size w w' := by
  have kb := RecBox.new w r m
  have hb := below_alloc w (.cells (recA r m) 31)
  have hk := chgs_cases r.kind
  go_enter Try.func23, Try.ntmps23
  go_upto_region 1 with fail
  generalize World.alloc w _ = w1 at *
  have q0 := kb.k0
  clear kb
  have HB := Lib.hid hb
  clear hb
  rcases hk with ⟨h, hc⟩ | ⟨h, h', hc⟩ | ⟨h, h', hc⟩
  · have HC := Lib.hid hc
    rw [h] at q0
    clear hc h
    go_wp2
    go_ret
    exact ⟨by rw [HC.out]; rfl, HB.out⟩
  · have HC := Lib.hid hc
    rw [h'] at q0
    clear hc h h'
    go_wp2
    go_ret
    exact ⟨by rw [HC.out]; rfl, HB.out⟩
  · have HC := Lib.hid hc
    have t1 : ((r.kind : Int) == 2) = false := by rw [beq_eq_false_iff_ne]; omega
    have t2 : ((r.kind : Int) == 3) = false := by rw [beq_eq_false_iff_ne]; omega
    clear hc h h'
    go_wp2
    go_ret
    exact ⟨by rw [HC.out]; rfl, HB.out⟩
theorem flags_any (c : ChgP) (m : ChgM) (w : World) :
    Calls Try.prog 41 #[.agg (chgV c m)] w fun e w' => e = .returned (.int .u64 (flagsN c : Nat)) ∧ Below w.heap.size w w' := by
  have kb := Blk.new w 27 (chgV c m)
  have hb := below_alloc w (.cells (chgV c m) 27)
  have hf : flagsN c = (if c.had then 1 else 0) + (if c.has then 2 else 0) := rfl
  go_enter Try.func41, Try.ntmps41
  go_upto_region 1 with fail
  generalize World.alloc w _ = w1 at *
  have q2 : w1.cell? ⟨w.heap.size, 2, none⟩ = some (.bool c.had) := kb.cell 2
  have q3 : w1.cell? ⟨w.heap.size, 3, none⟩ = some (.bool c.has) := kb.cell 3
  have HB := Lib.hid hb
  have HF := Lib.hid hf
  clear hb kb hf
  cases hh : c.had <;> cases hs : c.has
  all_goals
    rw [hh] at q2
    rw [hs] at q3
    go_wp2
    go_ret
    exact ⟨by rw [HF.out, hh, hs]; rfl, HB.out⟩
end Go.Proofs.Ythbaoljghofkoaa
