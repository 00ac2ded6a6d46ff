/- disk: goes, by the device. Conditions: the device lies there. -/
import Derived.Test.YtnbbneldbagohaaDiskRead
namespace Go.Proofs.Ytnbbneldbagohaa
open Go.ChangeShapes Go.WideShapes Go.ChangeAt Go.RowKit
set_option linter.unusedVariables false
set_option linter.unusedSimpArgs false

/-- one more call: is it done? what is the device then? -/
def DevP.goes (D : DevP) : Bool × DevP :=
  match D.left with
  | none => (true, D)
  | some 0 => (false, { D with halted := true })
  | some (m + 1) => (true, { D with left := some m })
theorem DevP.goes_f (D : DevP) : D.goes.2.f = D.f := by
  unfold DevP.goes
  split <;> rfl
section
variable {D : DevP} {w : World} {F : Nat → Prop} {gp : Nat} {s : Nat → Value} {lv : Value} {X : Nat → List Value}
/-- blocks of a device that hold no bytes -/
def Hard (F : Nat → Prop) (w : World) (b : Nat) : Prop := F b ∧ ¬ U8 w b
theorem goes_any (h : DevAt D w F gp s lv X) :
    Calls Try.prog 33 #[.pointer (some ⟨gp, 0, none⟩)] w fun e w' => e = .returned (.bool D.goes.1) ∧ DevAt D.goes.2 w' F gp s lv X ∧ Only (Hard F w) w w' := by
  obtain ⟨f, left, halted⟩ := D
  have hb := h.blk.cell
  have hgp : ¬ U8 w gp := fun q => absurd (q.uniq' h.blk.ty) (by decide)
  cases left with
  | none =>
    have c2 : w.cell? ⟨gp, 2, none⟩ = some (.pointer none) := by
      have e : lv = .pointer none := h.left
      subst e
      exact hb 2
    exact (goes_all gp w c2).mono fun e w' ⟨h1, h2⟩ => by
      subst h2
      exact ⟨h1, h, Only.refl _ _⟩
  | some n =>
    obtain ⟨gl, e, hFl, hbl, hn⟩ := h.left
    subst e
    have hgl : ¬ U8 w gl := fun q => absurd (q.uniq' hbl.ty) (by decide)
    have c2 : w.cell? ⟨gp, 2, none⟩ = some (.pointer (some ⟨gl, 0, none⟩)) := hb 2
    have cl : w.cell? ⟨gl, 0, none⟩ = some (.int .i64 n) := hbl.cell 0
    cases n with
    | zero =>
      have c3 : w.cell? ⟨gp, 3, none⟩ = some (.bool halted) := hb 3
      refine (goes_zero gp gl _ w c2 c3 (h.blk.frozen 3) cl).mono fun e w' ⟨h1, h2⟩ => ?_
      subst h2
      have ho : Only (fun b => b = gp) w (w.setCell ⟨gp, 3, none⟩ (.bool true)) := (Only.refl (fun b => b = gp) _).setCell (p := ⟨gp, 3, none⟩) (.inl rfl) _
      have hfar : Far w 70 (fun b => b = gp) := fun b q hb => by
        subst q
        exact ⟨_, h.blk.ty, by decide, by decide, by decide⟩
      have hne : gl ≠ gp := fun q => by
        subst q
        exact absurd (hbl.ty.uniq h.blk.ty) (by decide)
      exact ⟨h1, ⟨h.toFilesAt.far ho hfar, h.blk.set_ 3 _, h.inF, ⟨gl, rfl, hFl, hbl.far hne _, hn⟩⟩, ho.mono fun b q => .inl (by subst q; exact ⟨h.inF, hgp⟩)⟩
    | succ m =>
      refine (goes_more gp gl m hn w c2 cl (hbl.frozen 0)).mono fun e w' ⟨h1, h2⟩ => ?_
      subst h2
      have ho : Only (fun b => b = gl) w (w.setCell ⟨gl, 0, none⟩ (.int .i64 m)) := (Only.refl (fun b => b = gl) _).setCell (p := ⟨gl, 0, none⟩) (.inl rfl) _
      have hfar : Far w 70 (fun b => b = gl) := fun b q hb => by
        subst q
        exact ⟨_, hbl.ty, by decide, by decide, by decide⟩
      have hne : gp ≠ gl := fun q => by
        subst q
        exact absurd (hbl.ty.uniq h.blk.ty) (by decide)
      exact ⟨h1, ⟨h.toFilesAt.far ho hfar, h.blk.far hne _, h.inF, ⟨gl, rfl, hFl, hbl.set_ 0 _, by omega⟩⟩, ho.mono fun b q => .inl (by subst q; exact ⟨hFl, hgl⟩)⟩
end
end Go.Proofs.Ytnbbneldbagohaa
