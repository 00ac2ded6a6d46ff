/- The document's device: Read, Sync, Image. Conditions: the device lies there. -/
import Derived.Test.YtnbbneldbagohaaRDev
namespace Go.Proofs.Ytnbbneldbagohaa
open Go.ChangeShapes Go.WideShapes Go.ChangeAt Go.RowKit
set_option linter.unusedVariables false
set_option linter.unusedSimpArgs false
set_option maxRecDepth 20000

/-- bytes of its own, and a number (an int) -/
def RetBI (l : List Nat) (no : Int) (w : World) (e : Ending) (w' : World) : Prop :=
  ∃ A c, e = .returned (.tuple #[.slice A l.length c, .int .i64 no]) ∧ w'.ownsRow w.heap.size 5 1 (.slice A l.length c) l.length (l.map byteV) ∧ Below w.heap.size w w' ∧ Small l
theorem RetBI.of {l : List Nat} {no : Int} {w w1 w2 : World} {A : Option Addr} {c : Nat} (hb : Below w.heap.size w w1) (ho : w2.ownsRow w1.heap.size 5 1 (.slice A l.length c) l.length (l.map byteV)) (hb2 : Below w1.heap.size w1 w2) (hs : Small l) :
    RetBI l no w (.returned (.tuple #[.slice A l.length c, .int .i64 no])) w2 := ⟨A, c, rfl, own_base hb.size ho, hb.trans (hb2.mono hb.size), hs⟩
section
variable {D : DevP} {w : World} {F : Nat → Prop} {p : Value} {gp : Nat} {s : Nat → Value} {lf : Int} {X : Nat → List Value}
set_option maxHeartbeats 1000000 in
theorem rread_some (h : RAt D w F gp s lf X) {N : Nat} (hG : D.good N) (hN : N ≤ 100000) {n k : Nat} (hn : n < 2) (hk : k < (D.f n).length) :
    Calls Try.prog 41 #[.pointer (some ⟨gp, 0, none⟩), .int .u8 n, .int .i64 k] w (RetBI (D.f n)[k].newest 0 w) := by
  have hno := none_yes h hn hk (hG n hn).1
  obtain ⟨r1, r2, r3⟩ := hG.at_ hn hk
  obtain ⟨g, c, lw, wv, es, q0, q1, ht, ⟨L, how, hFw, hT⟩, hFg, hgw, -⟩ := h.toFilesAt.sector hn hk
  obtain ⟨A5, c5, rfl, -, -⟩ := own_form how
  obtain ⟨A6, c6, rfl, hc6, hb6⟩ := ht.bytes
  have c0 := h.cellF hn
  rw [es] at c0
  rw [Nat.mul_comm 2 k] at q0 q1
  have hgpl := h.blk.lt
  have e4 : (0 : Int) ≤ (n : Int) := by omega
  have e5 : (n : Int) < 2 := by omega
  have e6 : (0 : Int) ≤ (k : Int) := by omega
  have e7 : (k : Int) < ((D.f n).length : Int) := by omega
  have hnew : (D.f n)[k].newest = (D.f n)[k].waits.getLast?.getD (D.f n)[k].last := rfl
  clear h hG es ht
  generalize (D.f n)[k] = sc at *
  generalize (D.f n).length = m2 at *
  have a0 := (Below.refl w.heap.size w).alloc (Nat.le_refl _) (.cells #[.slice A6 sc.last.length c6, .slice A5 sc.waits.length c5] 83)
  rw [hnew]
  clear hnew
  rcases Nat.eq_zero_or_pos sc.waits.length with h0 | h0
  · have e : sc.waits = [] := List.length_eq_zero_iff.1 h0
    rw [e] at q1 how a0 ⊢
    simp only [List.length_nil, List.getLast?_nil, Option.getD_none] at q1 a0 ⊢
    rw [r1] at q0 a0
    have hcl := rlent_any A6 c6 sc.last w.heap.size (w.alloc (.cells #[.slice A6 128 c6, .slice A5 0 c5] 83)) (hb6.below a0) (by omega)
    rw [r1] at hcl
    have fin : ∀ A c w2, w2.ownsRow (w.alloc (.cells #[.slice A6 128 c6, .slice A5 0 c5] 83)).heap.size 5 1 (.slice A sc.last.length c) sc.last.length (sc.last.map byteV) → Below (w.alloc (.cells #[.slice A6 128 c6, .slice A5 0 c5] 83)).heap.size (w.alloc (.cells #[.slice A6 128 c6, .slice A5 0 c5] 83)) w2 → Small sc.last → RetBI sc.last 0 w (.returned (.tuple #[.slice A sc.last.length c, .int .i64 0])) w2 := fun A c w2 y1 y2 y3 => RetBI.of a0 y1 y2 y3
    have FIN := Lib.hid fin
    clear fin hb6 how
    go_enter Try.func41, Try.ntmps41
    go_wp2_with fail
    refine hno.mono ?_
    rintro e w1 ⟨rfl, rfl⟩
    go_wp2_with fail
    refine hcl.mono ?_
    rintro e w2 ⟨A7, c7, rfl, o7, b7, s7⟩
    have F7' := FIN.out A7 c7 w2 o7 b7 s7
    simp only [r1] at F7'
    have F7 := Lib.hid F7'
    clear F7'
    clear o7 b7 hcl FIN
    go_wp2
    go_ret2
    exact F7.out
  · obtain ⟨b2, rfl, hb2, hb2'⟩ := own_pos how h0
    obtain ⟨m, hm⟩ : ∃ m, sc.waits.length = m + 1 := ⟨sc.waits.length - 1, by omega⟩
    have hLl : L.length = m + 1 := by have := how.1; omega
    have hu : L[m]? = some (L[m]'(by omega)) := List.getElem?_eq_getElem (by omega)
    have hl : sc.waits[m]? = some (sc.waits[m]'(by omega)) := List.getElem?_eq_getElem (by omega)
    have hx := hT m _ _ hu hl
    have hw128 : (sc.waits[m]'(by omega)).length = 128 := r3 _ (List.getElem_mem _)
    have e : sc.waits.getLast?.getD sc.last = sc.waits[m]'(by omega) := by
      have e' : sc.waits.length - 1 = m := by omega
      rw [List.getLast?_eq_getElem?, e', hl]; rfl
    rw [e]
    have qc : w.cell? ⟨b2, m, none⟩ = some (L[m]'(by omega)) := (how.cellAt m (by omega)).trans hu
    rw [hm] at q1 a0
    rw [r1] at q0 a0
    have hm5 : m < 100000 := by omega
    generalize L[m]'(by omega) = u at *
    generalize sc.waits[m]'(by omega) = x at *
    obtain ⟨A8, c8, rfl, hc8, hb8⟩ := hx.bytes
    rw [hw128] at qc
    have qc' := (a0.cell (p := ⟨b2, m, none⟩) hb2').trans qc
    have hcl := rlent_any A8 c8 x w.heap.size (w.alloc (.cells #[.slice A6 128 c6, .slice (some ⟨b2, 0, none⟩) (m + 1) c5] 83)) (hb8.below a0) (by omega)
    rw [hw128] at hcl
    have fin : ∀ A c w2, w2.ownsRow (w.alloc (.cells #[.slice A6 128 c6, .slice (some ⟨b2, 0, none⟩) (m + 1) c5] 83)).heap.size 5 1 (.slice A x.length c) x.length (x.map byteV) → Below (w.alloc (.cells #[.slice A6 128 c6, .slice (some ⟨b2, 0, none⟩) (m + 1) c5] 83)).heap.size (w.alloc (.cells #[.slice A6 128 c6, .slice (some ⟨b2, 0, none⟩) (m + 1) c5] 83)) w2 → Small x → RetBI x 0 w (.returned (.tuple #[.slice A x.length c, .int .i64 0])) w2 := fun A c w2 y1 y2 y3 => RetBI.of a0 y1 y2 y3
    have FIN := Lib.hid fin
    obtain ⟨q, hq⟩ : ∃ q : Nat, m + 1 = q := ⟨_, rfl⟩
    rw [hq] at q1 hcl FIN qc'
    have g1 : decide ((0 : Int) < (q : Int)) = true := by rw [decide_eq_true_iff]; omega
    have g2 : (q : Int) - 1 = (m : Int) := by omega
    have g3 : (0 : Int) ≤ (m : Int) := by omega
    have g4 : (m : Int) < (q : Int) := by omega
    clear fin hb6 how hb8 hx hu hl hT a0 e hq hm h0 hLl
    go_enter Try.func41, Try.ntmps41
    go_wp2_with fail
    refine hno.mono ?_
    rintro e w1 ⟨rfl, rfl⟩
    go_wp2_with fail
    refine hcl.mono ?_
    rintro e w2 ⟨A7, c7, rfl, o7, b7, s7⟩
    have F7' := FIN.out A7 c7 w2 o7 b7 s7
    simp only [hw128] at F7'
    have F7 := Lib.hid F7'
    clear F7'
    clear o7 b7 hcl FIN
    go_wp2
    go_ret2
    exact F7.out
theorem rread_any (h : IsRDev D w F p) {N : Nat} (hG : D.good N) (hN : N ≤ 100000) (n : Nat) (hn : n < 256) (i : Int) :
    Calls Try.prog 41 #[p, .int .u8 n, .int .i64 i] w (RetBI (D.read n i).1 ((D.read n i).2 : Nat) w) := by
  obtain ⟨gp, s, lf, X, rfl, h⟩ := h
  by_cases hh : D.has n i
  · have hh' := hh
    obtain ⟨h1, h2, h3⟩ := hh
    obtain ⟨k, rfl⟩ := Int.eq_ofNat_of_zero_le h2
    have hk : k < (D.f n).length := by omega
    have e1 : D.read n (k : Nat) = ((D.f n)[k].newest, 0) := by
      unfold DevP.read
      rw [if_pos hh', Int.toNat_natCast, DevP.sect_eq hk]
    rw [e1]
    exact rread_some h hG hN h1 hk
  · have e1 : D.read n i = ([], 50) := by
      unfold DevP.read
      rw [if_neg hh]
    rw [e1]
    have hno := none_no h n hn i hh
    have fin : RetBI [] 50 w (.returned (.tuple #[.slice none 0 0, .int .i64 50])) w := ⟨none, 0, rfl, World.ownsRow_nil _ _ _ _, Below.refl _ _, fun x hx => by cases hx⟩
    have FIN := Lib.hid fin
    clear h fin
    go_enter Try.func41, Try.ntmps41
    go_wp2_with fail
    refine hno.mono ?_
    rintro e w1 ⟨rfl, rfl⟩
    go_wp2
    go_ret2
    exact FIN.out
end
end Go.Proofs.Ytnbbneldbagohaa
