/- disk: Read, Waits, Size, Halted, Halt, by the device. Conditions: the device lies there. -/
import Derived.Test.YtnbbneldbagohaaDiskWrite
namespace Go.Proofs.Ytnbbneldbagohaa
open Go.ChangeShapes Go.WideShapes Go.ChangeAt Go.RowKit
set_option linter.unusedVariables false
set_option linter.unusedSimpArgs false

section
variable {D : DevP} {w : World} {F : Nat → Prop} {p : Value}
theorem read_any (h : IsDev D w F p) {N : Nat} (hG : D.good N) (hN : N ≤ 100000) (n : Nat) (hn : n < 256) (i : Int) :
    Calls Try.prog 20 #[p, .int .u8 n, .int .i64 i] w (RetB2 (D.read n i).1 ((D.read n i).2 : Nat) w) := by
  obtain ⟨gp, s, lv, X, rfl, h⟩ := h
  by_cases hh : D.has n i
  · have hh' := hh
    obtain ⟨h1, h2, h3⟩ := hh
    obtain ⟨k, rfl⟩ := Int.eq_ofNat_of_zero_le h2
    have hk : k < (D.f n).length := by omega
    have e1 : D.read n (k : Nat) = ((D.f n)[k].newest, 0) := by
      unfold DevP.read
      rw [if_pos hh', Int.toNat_natCast, DevP.sect_eq hk]
    rw [e1]
    obtain ⟨q1, q2, q3⟩ := hG.at_ h1 hk
    exact read_some h n h1 k hk (hG n h1).1 (by omega) (by rw [newest_128 q1 q3]; omega)
  · have e1 : D.read n i = ([], 50) := by
      unfold DevP.read
      rw [if_neg hh]
    rw [e1]
    refine (read_none h n hn i hh).mono ?_
    rintro e w' ⟨rfl, rfl⟩
    exact ⟨none, 0, rfl, World.ownsRow_nil _ _ _ _, Below.refl _ _, fun x hx => by cases hx⟩
theorem waits_any (h : IsDev D w F p) {N : Nat} (hG : D.good N) (n : Nat) (hn : n < 256) (i : Int) :
    Calls Try.prog 22 #[p, .int .u8 n, .int .i64 i] w fun e w' => e = .returned (.int .i64 (D.waits n i : Nat)) ∧ w = w' := by
  obtain ⟨gp, s, lv, X, rfl, h⟩ := h
  by_cases hh : D.has n i
  · have hh' := hh
    obtain ⟨h1, h2, h3⟩ := hh
    obtain ⟨k, rfl⟩ := Int.eq_ofNat_of_zero_le h2
    have hk : k < (D.f n).length := by omega
    have e1 : D.waits n (k : Nat) = (D.f n)[k].waits.length := by
      unfold DevP.waits
      rw [if_pos hh', Int.toNat_natCast, DevP.sect_eq hk]
    rw [e1]
    exact waits_some h n h1 k hk (hG n h1).1
  · have e1 : D.waits n i = 0 := by
      unfold DevP.waits
      rw [if_neg hh]
    rw [e1]
    exact waits_none h n hn i hh
theorem sizes_any (h : IsDev D w F p) (n : Nat) (hn : n < 256) :
    Calls Try.prog 27 #[p, .int .u8 n] w fun e w' => e = .returned (.int .i64 (D.size n : Nat)) ∧ w = w' := by
  obtain ⟨gp, s, lv, X, rfl, h⟩ := h
  exact size_any h n hn
theorem haltedd_any (h : IsDev D w F p) :
    Calls Try.prog 18 #[p] w fun e w' => e = .returned (.bool D.halted) ∧ w = w' := by
  obtain ⟨gp, s, lv, X, rfl, h⟩ := h
  exact halted_any gp D.halted w (h.blk.cell 3)
theorem haltd_any (h : IsDev D w F p) (hF : ∀ b, F b → b < w.heap.size) (n : Int) (hn : n < 9223372036854775808) :
    Calls Try.prog 16 #[p, .int .i64 n] w fun e w' => e = .returned (.tuple #[]) ∧ DevPost (D.halt n) F p w w' := by
  obtain ⟨gp, s, lv, X, rfl, h⟩ := h
  have hlv : lv.oneCell' = true := by
    have := h.left
    cases hl : D.left with
    | none => rw [hl] at this; rw [show lv = .pointer none from this]; rfl
    | some q => rw [hl] at this; obtain ⟨gl, e, _⟩ := this; rw [e]; rfl
  have hgp := h.blk.lt
  refine (halt_any gp n lv w (h.blk.cell 2) (h.blk.frozen 2) hgp hlv).mono fun e w' ⟨e0, e1⟩ => ⟨e0, ?_⟩
  subst e1
  have ho : Only (fun b => b = gp) w ((w.setCell ⟨gp, 2, none⟩ (.pointer (some ⟨w.heap.size, 0, none⟩))).alloc (.cells #[.int .i64 (max n 0)] 3)) :=
    ((Only.refl (fun b => b = gp) w).setCell (p := ⟨gp, 2, none⟩) (.inl rfl) _).alloc _
  have hfar : Far w 70 (fun b => b = gp) := fun b q hb => by
    subst q
    exact ⟨_, h.blk.ty, by decide, by decide, by decide⟩
  have hsz : (w.setCell ⟨gp, 2, none⟩ (.pointer (some ⟨w.heap.size, 0, none⟩))).heap.size = w.heap.size := by simp [World.setCell]
  have hnew : Blk ((w.setCell ⟨gp, 2, none⟩ (.pointer (some ⟨w.heap.size, 0, none⟩))).alloc (.cells #[.int .i64 (max n 0)] 3)) w.heap.size 3 #[.int .i64 (max n 0)] := by
    have := Blk.new (w.setCell ⟨gp, 2, none⟩ (.pointer (some ⟨w.heap.size, 0, none⟩))) 3 #[.int .i64 (max n 0)]
    rw [hsz] at this
    exact this
  have hin : grow F w ((w.setCell ⟨gp, 2, none⟩ (.pointer (some ⟨w.heap.size, 0, none⟩))).alloc (.cells #[.int .i64 (max n 0)] 3)) w.heap.size := .inr ⟨Nat.le_refl _, hnew.lt⟩
  have hmx : (((max n 0).toNat : Nat) : Int) = max n 0 := by omega
  refine ⟨⟨gp, s, .pointer (some ⟨w.heap.size, 0, none⟩), X, rfl, ⟨(h.toFilesAt.far ho hfar).mono fun b q => .inl q, (h.blk.set_ 2 _).alloc _, .inl h.inF, ⟨w.heap.size, rfl, hin, ?_, ?_⟩⟩⟩, ho.mono fun b q => .inl (by subst q; exact h.inF)⟩
  · rw [hmx]
    exact hnew
  · omega
end
end Go.Proofs.Ytnbbneldbagohaa
