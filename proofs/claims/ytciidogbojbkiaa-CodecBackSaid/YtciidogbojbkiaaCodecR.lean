/- The contract of codec's reader: a number is taken off the front. Conditions: there are as many bytes. -/
import Derived.Test.YtciidogbojbkiaaCodecAsk
namespace Go.Proofs.Ytciidogbojbkiaa
open Go.ChangeShapes Go.WideShapes Go.ChangeAt Go.RowKit
open NumMath
set_option linter.unusedVariables false
set_option linter.unusedSimpArgs false
set_option maxRecDepth 20000

/-- A reader's variable: block p holds a slice that reads as the bytes l, which lie below block B; only p, and new blocks, have turned since W0. -/
def Rd (W0 : World) (B p : Nat) (l : List Nat) (w : World) : Prop :=
  ∃ A c, w.heap[p]? = some (.cells #[.slice A l.length c] 50 (0, 0)) ∧ l.length ≤ c ∧ Bytes w B A l ∧ W0.grownBy w (some p) ∧ p < W0.heap.size ∧ B ≤ p
theorem Rd.cell {W0 : World} {B p : Nat} {l : List Nat} {w : World} (h : Rd W0 B p l w) {b : Nat} (hb : b < W0.heap.size) (hne : b ≠ p) (o : Nat) : w.cell? ⟨b, o, none⟩ = W0.cell? ⟨b, o, none⟩ := by
  obtain ⟨A, c, _, _, _, hg, _⟩ := h
  exact World.cell?_of_block (a := ⟨b, o, none⟩) (hg.block b hb (by simpa using hne))
theorem Rd.frozen {W0 : World} {B p : Nat} {l : List Nat} {w : World} (h : Rd W0 B p l w) {b : Nat} (hb : b < W0.heap.size) (hne : b ≠ p) (o : Nat) : w.frozen? ⟨b, o, none⟩ = W0.frozen? ⟨b, o, none⟩ := by
  obtain ⟨A, c, _, _, _, hg, _⟩ := h
  simp only [World.frozen?, hg.block b hb (by simpa using hne)]
theorem Rd.set {W0 w : World} {B p : Nat} {l : List Nat} {A : Option Addr} {c : Nat} {m : Nat} {A' : Option Addr} {c' : Nat} (hbl : w.heap[p]? = some (.cells #[.slice A l.length c] 50 (0, 0))) (hb : Bytes w B A' (l.drop m)) (hg : W0.grownBy w (some p)) (hp : p < W0.heap.size) (hB : B ≤ p) (hc : l.length - m ≤ c') :
    Rd W0 B p (l.drop m) (w.setCell ⟨p, 0, none⟩ (.slice A' (l.length - m) c')) := by
  refine ⟨A', c', ?_, by rw [List.length_drop]; exact hc, hb.below ((Below.refl _ _).setCell (p := ⟨p, 0, none⟩) hB _), ?_, hp, hB⟩
  · rw [List.length_drop]; exact set_of_block hbl
  · have h1 : Only (fun b => b = p) W0 w := Only.of_grown hg (fun k hk => by injection hk with hk; exact .inl hk.symm)
    exact (h1.setCell (p := ⟨p, 0, none⟩) (.inl rfl) _).grown (fun k hk => by rw [hk])

theorem bytes_add {w : World} {B : Nat} {A : Option Addr} {l : List Nat} (h : Bytes w B A l) (k : Nat) : Bytes w B (A.map (·.add k)) (l.drop k) := by
  have hd := h.drop k
  refine ⟨fun j hj => ?_, hd.2⟩
  obtain ⟨b, o, e, h1, h2⟩ := hd.1 j hj
  cases A with
  | none => cases e
  | some a =>
    obtain ⟨b', o', e', _⟩ := h.1 (k + j) (by simp at hj ⊢; omega)
    injection e' with e'
    subst e'
    simp only [shift, Option.map_some, Option.some.injEq, Addr.mk.injEq, and_true] at e
    obtain ⟨rfl, rfl⟩ := e
    refine ⟨b', o' + k, ?_, h1, h2⟩
    simp only [Option.map_some, Option.some.injEq]
    unfold Addr.add
    split
    · subst_vars; rfl
    · rfl
set_option maxHeartbeats 1000000 in
theorem rnumber_any (m : Nat) (h8 : m ≤ 8) (W0 : World) (B p : Nat) (l : List Nat) (w : World) (h : Rd W0 B p l w) (hm : m ≤ l.length) (hl : l.length ≤ 100000) :
    Calls Try.prog 18 #[.pointer (some ⟨p, 0, none⟩), .int .i64 m] w fun e w' => e = .returned (.int .u64 (getL (l.take m) : Nat)) ∧ Rd W0 B p (l.drop m) w' := by
  obtain ⟨A, c, hbl, hlc, hb, hg, hp, hB⟩ := h
  have hc := cell_of_block hbl
  have hf := frozen_of_block hbl 0
  have hget := get_any A c (l.take m) B w (hb.take m) (by simp; omega) (by simp; omega)
  have hlm : (l.take m).length = m := by simp; omega
  rw [hlm, List.take_take, Nat.min_eq_right h8] at hget
  have hmc : m ≤ c := by omega
  have hmc2 : decide (m ≤ c) = true := by simpa using hmc
  go_enter Try.func18, Try.ntmps18
  go_wp2_with fail
  refine hget.mono ?_
  rintro e w1 ⟨rfl, rfl⟩
  clear hget
  have hm2 : m ≤ l.length := hm
  go_wp2_with fail
  · go_ret
    refine ⟨rfl, ?_⟩
    have hd : l.drop m = [] := List.drop_eq_nil_of_le (by omega)
    exact Rd.set hbl (by rw [hd]; exact Bytes.nil _ _ _) hg hp hB (by omega)
  · go_ret
    refine ⟨rfl, ?_⟩
    exact Rd.set hbl (bytes_add hb m) hg hp hB (by omega)
end Go.Proofs.Ytciidogbojbkiaa
