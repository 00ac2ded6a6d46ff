/- The contracts of codec.Told, codec.Tell. Conditions: as stated. -/
import Derived.Test.YtciidogbojbkiaaCodecR
namespace Go.Proofs.Ytciidogbojbkiaa
open Go.ChangeShapes Go.WideShapes Go.ChangeAt Go.RowKit
open NumMath
set_option linter.unusedVariables false
set_option linter.unusedSimpArgs false
set_option maxRecDepth 20000

theorem Rd.rebase {W0 w : World} {B p : Nat} {l : List Nat} (h : Rd W0 B p l w) : Rd w B p l w := by
  obtain ⟨A, c, h1, h2, h3, h4, h5, h6⟩ := h
  exact ⟨A, c, h1, h2, h3, World.grownBy.refl _ _, Nat.lt_of_lt_of_le h5 h4.size, h6⟩
theorem Rd.below {W0 w : World} {B p n : Nat} {l : List Nat} (h : Rd W0 B p l w) (hn : n ≤ p) (hs : n ≤ W0.heap.size) : Below n W0 w := by
  obtain ⟨A, c, _, _, _, hg, _⟩ := h
  exact (Only.of_grown (S := fun b => b = p) hg (fun k hk => by injection hk with hk; exact .inl hk.symm)).below hs (fun b q => by omega)
theorem Rd.size {W0 w : World} {B p : Nat} {l : List Nat} (h : Rd W0 B p l w) : W0.heap.size ≤ w.heap.size := by
  obtain ⟨A, c, _, _, _, hg, _⟩ := h
  exact hg.size
theorem Rd.lt {W0 w : World} {B p : Nat} {l : List Nat} (h : Rd W0 B p l w) : p < W0.heap.size := by
  obtain ⟨A, c, _, _, _, _, hp, _⟩ := h
  exact hp
theorem Rd.blk {W0 w : World} {B p : Nat} {l : List Nat} (h : Rd W0 B p l w) {g : Nat} {t : TypeId} {cs : Array Value} (hb : Blk W0 g t cs) (hne : g ≠ p) : Blk w g t cs := by
  obtain ⟨A, c, _, _, _, hg, _⟩ := h
  exact hb.grown hg (by simpa using hne)
theorem Rd.alloc {w : World} {B p : Nat} {l : List Nat} (h : Rd w B p l w) (o : Obj) : Rd (w.alloc o) B p l (w.alloc o) := by
  obtain ⟨A, c, h1, h2, h3, h4, h5, h6⟩ := h
  exact ⟨A, c, (Below.heap_alloc w o p h5).trans h1, h2, h3.below ((Below.refl _ _).alloc (by omega) o), World.grownBy.refl _ _, by simp; omega, h6⟩
theorem Rd.far {w : World} {B p : Nat} {l : List Nat} (h : Rd w B p l w) {g : Nat} (hg : p ≠ g) (hB : B ≤ g) (o : Nat) (u : Value) : Rd (w.setCell ⟨g, o, none⟩ u) B p l (w.setCell ⟨g, o, none⟩ u) := by
  obtain ⟨A, c, h1, h2, h3, h4, h5, h6⟩ := h
  exact ⟨A, c, (Below.heap_setCell w ⟨g, o, none⟩ u p hg).trans h1, h2, h3.below ((Below.refl _ _).setCell (p := ⟨g, o, none⟩) hB _), World.grownBy.refl _ _, by simpa [World.setCell] using h5, h6⟩
theorem rn_any (l : List Nat) (i m : Nat) (h8 : m ≤ 8) (B p : Nat) (w : World) (h : Rd w B p (l.drop i) w) (hm : i + m ≤ l.length) (hl : l.length ≤ 100000) :
    Calls Try.prog 18 #[.pointer (some ⟨p, 0, none⟩), .int .i64 m] w fun e w' => e = .returned (.int .u64 (getL (seg l i m) : Nat)) ∧ Rd w B p (l.drop (i + m)) w' := by
  have := rnumber_any m h8 w B p (l.drop i) w h (by rw [List.length_drop]; omega) (by rw [List.length_drop]; omega)
  rwa [List.drop_drop] at this
set_option maxHeartbeats 1000000 in
theorem rsmall_any (l : List Nat) (i : Nat) (B p : Nat) (w : World) (h : Rd w B p (l.drop i) w) (hm : i + 4 ≤ l.length) (hl : l.length ≤ 100000) (hs : Small l) :
    Calls Try.prog 19 #[.pointer (some ⟨p, 0, none⟩)] w fun e w' => e = .returned (.int .u32 (getL (seg l i 4) : Nat)) ∧ Rd w B p (l.drop (i + 4)) w' := by
  have hn := rn_any l i 4 (by omega) B p w h hm hl
  have hlt := seg_lt hs i 4
  generalize getL (seg l i 4) = v at *
  have hlt : v < 4294967296 := hlt
  go_enter Try.func19, Try.ntmps19
  go_wp2_with fail
  refine hn.mono ?_
  rintro e w1 ⟨rfl, h1⟩
  go_wp2_with fail
  go_ret
  exact ⟨rfl, h1⟩
/-- a result's variable and a reader's -/
theorem rd_start (w : World) (cs : Array Value) (t : TypeId) {A : Option Addr} {c : Nat} {l : List Nat} (hb : Bytes w w.heap.size A l) (hc : l.length ≤ c) :
    Rd ((w.alloc (.cells cs t)).alloc (.cells #[.slice A l.length c] 50)) w.heap.size (w.heap.size + 1) l ((w.alloc (.cells cs t)).alloc (.cells #[.slice A l.length c] 50)) ∧
    Below w.heap.size w ((w.alloc (.cells cs t)).alloc (.cells #[.slice A l.length c] 50)) ∧ w.heap.size + 2 ≤ ((w.alloc (.cells cs t)).alloc (.cells #[.slice A l.length c] 50)).heap.size ∧
    (∀ o, ((w.alloc (.cells cs t)).alloc (.cells #[.slice A l.length c] 50)).cell? ⟨w.heap.size, o, none⟩ = cs[o]?) ∧ (∀ o, ((w.alloc (.cells cs t)).alloc (.cells #[.slice A l.length c] 50)).frozen? ⟨w.heap.size, o, none⟩ = false) := by
  have hbl : ((w.alloc (.cells cs t)).alloc (.cells #[.slice A l.length c] 50)).heap[w.heap.size + 1]? = some (.cells #[.slice A l.length c] 50 (0, 0)) := by
    have := heap_alloc_new (w.alloc (.cells cs t)) (.cells #[.slice A l.length c] 50)
    rwa [World.size_alloc] at this
  have h0 : ((w.alloc (.cells cs t)).alloc (.cells #[.slice A l.length c] 50)).heap[w.heap.size]? = some (.cells cs t (0, 0)) := (Below.heap_alloc (w.alloc (.cells cs t)) _ w.heap.size (by simp)).trans (heap_alloc_new w _)
  have hB : Below w.heap.size w ((w.alloc (.cells cs t)).alloc (.cells #[.slice A l.length c] 50)) := ((Below.refl _ _).alloc (Nat.le_refl _) _).alloc (by simp) _
  refine ⟨⟨A, c, hbl, hc, hb.below hB, World.grownBy.refl _ _, by simp, by omega⟩, hB, by simp, fun o => ?_, fun o => frozen_of_block h0 o⟩
  simp only [World.cell?, h0]
  simp

def toldC (l : List Nat) : Rep × Nat := if l.length = 26 then (toldL l, 0) else (Rep.zero, 230)
theorem repV_zero : repV Rep.zero = .agg #[.int .u16 0, .int .u64 0, .int .u64 0, .int .u64 0] := rfl
set_option maxHeartbeats 4000000 in
theorem told_any (A : Option Addr) (c : Nat) (l : List Nat) (w : World) (hb : Bytes w w.heap.size A l) (hc : l.length ≤ c) (hl : l.length ≤ 100000) :
    Calls Try.prog 14 #[.slice A l.length c] w fun e w' => e = .returned (.tuple #[repV (toldC l).1, .int .u16 ((toldC l).2 : Nat)]) ∧ Below w.heap.size w w' := by
  by_cases h26 : l.length = 26
  · have ht : ((l.length : Int) != 26) = false := by rw [h26]; rfl
    have e : toldC l = (toldL l, 0) := by unfold toldC; rw [if_pos h26]
    rw [e]
    obtain ⟨hr0, hb0, hsz, hcs, hfz⟩ := rd_start w #[.int .u16 0, .int .u64 0, .int .u64 0, .int .u64 0] 42 hb hc
    have hfit := toldL_fits hb.2
    unfold toldL at hfit ⊢
    obtain ⟨f1, f2, f3, f4⟩ := hfit
    simp only at f1 f2 f3 f4
    have H26 := Lib.hid h26
    clear e h26
    go_enter Try.func14, Try.ntmps14
    go_wp2_with fail
    generalize World.alloc (World.alloc w _) _ = W0 at *
    refine (rn_any l 0 2 (by omega) w.heap.size (w.heap.size + 1) W0 hr0 (by rw [H26.out]; omega) hl).mono ?_
    rintro e w1 ⟨rfl, hr1⟩
    go_wp2_with fail
    have hs1 := hr1.size
    have c1 := fun o => (hr1.cell (b := w.heap.size) (by omega) (by omega) o).trans (hcs o)
    have z1 := fun o => (hr1.frozen (b := w.heap.size) (by omega) (by omega) o).trans (hfz o)
    have b1 := hb0.trans (hr1.below (n := w.heap.size) (by omega) (by omega))
    refine (rn_any l 2 8 (by omega) w.heap.size (w.heap.size + 1) w1 hr1.rebase (by rw [H26.out]; omega) hl).mono ?_
    rintro e w2 ⟨rfl, hr2⟩
    have hs2 := hr2.size
    have c2 := fun o => (hr2.cell (b := w.heap.size) (by omega) (by omega) o).trans (c1 o)
    have z2 := fun o => (hr2.frozen (b := w.heap.size) (by omega) (by omega) o).trans (z1 o)
    have b2 := b1.trans (hr2.below (n := w.heap.size) (by omega) (by omega))
    clear hcs hfz c1 z1 hr0 hr1
    go_wp2_with fail
    refine (rn_any l 10 8 (by omega) w.heap.size (w.heap.size + 1) w2 hr2.rebase (by rw [H26.out]; omega) hl).mono ?_
    rintro e w3 ⟨rfl, hr3⟩
    have hs3 := hr3.size
    have c3 := fun o => (hr3.cell (b := w.heap.size) (by omega) (by omega) o).trans (c2 o)
    have z3 := fun o => (hr3.frozen (b := w.heap.size) (by omega) (by omega) o).trans (z2 o)
    have b3 := b2.trans (hr3.below (n := w.heap.size) (by omega) (by omega))
    clear c2 z2 hr2
    go_wp2_with fail
    refine (rn_any l 18 8 (by omega) w.heap.size (w.heap.size + 1) w3 hr3.rebase (by rw [H26.out]; omega) hl).mono ?_
    rintro e w4 ⟨rfl, hr4⟩
    have c4 := fun o => (hr4.cell (b := w.heap.size) (by omega) (by omega) o).trans (c3 o)
    have z4 := fun o => (hr4.frozen (b := w.heap.size) (by omega) (by omega) o).trans (z3 o)
    have b4 := b3.trans (hr4.below (n := w.heap.size) (by omega) (by omega))
    clear c3 z3 hr3 hr4
    go_wp2
    refine bodyPost_ret (v := .tuple #[.agg #[.int .u16 (getL (seg l 0 2) : Nat), .int .u64 (getL (seg l 2 8) : Nat), .int .u64 (getL (seg l 10 8) : Nat), .int .u64 (getL (seg l 18 8) : Nat)], .int .u16 0]) (by simp [results, Try.results14, go_sem, c4]) rfl ⟨rfl, ?_⟩
    exact (((b4.setCell (Nat.le_refl _) _).setCell (Nat.le_refl _) _).setCell (Nat.le_refl _) _).setCell (Nat.le_refl _) _
  · have ht : ((l.length : Int) != 26) = true := by simp; omega
    have e : toldC l = (Rep.zero, 230) := by unfold toldC; rw [if_neg h26]
    rw [e, repV_zero]
    clear e h26
    go_enter Try.func14, Try.ntmps14
    go_wp2
    exact bodyPost_ret (v := .tuple #[.agg #[.int .u16 0, .int .u64 0, .int .u64 0, .int .u64 0], .int .u16 230]) (by simp [results, Try.results14, go_sem]) rfl ⟨rfl, (Below.refl _ _).alloc (Nat.le_refl _) _⟩
end Go.Proofs.Ytciidogbojbkiaa
