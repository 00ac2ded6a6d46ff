/- A device in a law's hands: what stays by what. Conditions: none. -/
import Derived.Test.YtnbbneldbagohaaDiskMake
namespace Go.Proofs.Ytnbbneldbagohaa
open Go.ChangeShapes Go.WideShapes Go.ChangeAt Go.RowKit
set_option linter.unusedVariables false
set_option linter.unusedSimpArgs false

/-- the device D lies in blocks F, all made since w0 -/
structure Dv (D : DevP) (w0 w : World) (F : Nat → Prop) (p : Value) : Prop where
  dev : IsDev D w F p
  hi : ∀ b, F b → b < w.heap.size
  lo : ∀ b, F b → w0.heap.size ≤ b
section
variable {D D' : DevP} {w0 w w' : World} {F : Nat → Prop} {p : Value} {A : Option Addr} {l : List Nat} {c n : Nat}
theorem Dv.below (h : Dv D w0 w F p) (hb : Below w.heap.size w w') : Dv D w0 w' F p := ⟨h.dev.below hb, fun b q => Nat.lt_of_lt_of_le (h.hi b q) hb.size, h.lo⟩
theorem Dv.post (h : Dv D w0 w F p) (hw : w0.heap.size ≤ w.heap.size) (hp : DevPost D' F p w w') : Dv D' w0 w' (grow F w w') p ∧ Below w0.heap.size w w' :=
  ⟨⟨hp.1, fun b q => q.elim (fun z => Nat.lt_of_lt_of_le (h.hi b z) hp.2.size) fun z => z.2, fun b q => q.elim (h.lo b) fun z => Nat.le_trans hw z.1⟩, hp.2.below hw h.lo⟩
theorem Dv.start (h : IsDev D w' (fun x => w.heap.size ≤ x ∧ x < w'.heap.size) p) (hw : w0.heap.size ≤ w.heap.size) : Dv D w0 w' (fun x => w.heap.size ≤ x ∧ x < w'.heap.size) p := ⟨h, fun b q => q.2, fun b q => Nat.le_trans hw q.1⟩
/-- bytes outside the device -/
theorem out_post (hb : BytesIn w (fun b => ¬ F b) A l) (ho : Only F w w') : BytesIn w' (fun b => ¬ grow F w w' b) A l := by
  have h1 := hb.only ho fun b q => q
  refine ⟨fun j hj => ?_, h1.2⟩
  obtain ⟨b, o, e, q1, q2, q3⟩ := hb.1 j hj
  obtain ⟨b', o', e', q1', q2', q3'⟩ := h1.1 j hj
  rw [e] at e'
  injection e' with e'
  injection e' with e1 e2
  subst e1
  subst e2
  exact ⟨b, o, e, fun z => z.elim q1 fun y => by omega, q2', q3'⟩
theorem out_below (hb : BytesIn w (fun b => ¬ F b) A l) (h : Below w.heap.size w w') : BytesIn w' (fun b => ¬ F b) A l := hb.only (Only.of_below h (fun _ => False)) fun _ _ q => q
theorem out_own (h : w'.ownsRow w.heap.size 5 1 (.slice A n c) n (l.map byteV)) (hs : Small l) (hF : ∀ b, F b → b < w.heap.size) : BytesIn w' (fun b => ¬ F b) A l := by
  refine ⟨(AtIn.own h).mono fun b q z => ?_, hs⟩
  have := (h.lt b q.symm).1
  have := hF b z
  omega
theorem out_args {B : Nat} (h : Bytes w B A l) (hB : B ≤ w.heap.size) (hF : ∀ b, F b → B ≤ b) : BytesIn w (fun b => ¬ F b) A l :=
  ⟨fun j hj => by
    obtain ⟨b, o, e, q1, q2⟩ := h.1 j hj
    exact ⟨b, o, e, fun z => by have := hF b z; omega, by omega, q2⟩, h.2⟩
end
/-- texts outside the device -/
def OutT (w : World) (F : Nat → Prop) (v : Value) (l : List Nat) : Prop := Txt w (fun b => ¬ F b) v l
section
variable {w w' : World} {F : Nat → Prop} {v : Value} {l : List Nat}
theorem OutT.below (h : OutT w F v l) (hb : Below w.heap.size w w') : OutT w' F v l := Txt.only h (Only.of_below hb (fun _ => False)) fun _ _ _ q => q
theorem OutT.post (h : OutT w F v l) (ho : Only F w w') : OutT w' (grow F w w') v l := by
  obtain ⟨A, c, e, hc, hb⟩ := h
  refine ⟨A, c, e, hc, fun j hj => ?_, hb.2⟩
  obtain ⟨b, o, e, ⟨q1, q2⟩, q3, q4⟩ := hb.1 j hj
  exact ⟨b, o, e, ⟨fun z => z.elim q1 fun y => by omega, q2.only q3 ho q1⟩, Nat.lt_of_lt_of_le q3 ho.size, (ho.cell (p := ⟨b, o + j, none⟩) q3 q1).trans q4⟩
theorem OutT.grown (h : OutT w F v l) {u : Value} {base : Nat} {e : TypeId} {s n : Nat} {xs : List Value} (ho : w.ownsRow base e s u n xs) (he : e ≠ 5) (hg : w.grownBy w' u.ownBlock) : OutT w' F v l :=
  Txt.only h (Only.of_grown (S := fun b => u.ownBlock = some b) hg fun b e => .inl e) fun b _ hu q => he ((own_ty ho q).uniq hu)
theorem OutT.own {A : Option Addr} {c n : Nat} (h : w'.ownsRow w.heap.size 5 1 (.slice A n c) n (l.map byteV)) (hn : l.length = n) (hs : Small l) (hF : ∀ b, F b → b < w.heap.size) : OutT w' F (.slice A n c) l :=
  Txt.own h hn hs fun b e z => by have := (h.lt b e).1; have := hF b z; omega
theorem OutT.bytes (h : OutT w F v l) : ∃ A c, v = .slice A l.length c ∧ l.length ≤ c ∧ BytesIn w (fun b => ¬ F b) A l := by
  obtain ⟨A, c, e, hc, hb⟩ := h
  exact ⟨A, c, e, hc, hb.mono fun b q => q.1⟩
end
/-- each of these values is a text outside the device -/
def Outs (w : World) (F : Nat → Prop) (L : List Value) (ls : List (List Nat)) : Prop := L.length = ls.length ∧ ∀ (j : Nat) (l : List Nat), ls[j]? = some l → ∃ u, L[j]? = some u ∧ OutT w F u l
section
variable {w w' : World} {F : Nat → Prop} {L : List Value} {ls : List (List Nat)}
theorem Outs.nil (w : World) (F : Nat → Prop) : Outs w F [] [] := ⟨rfl, fun j l h => by simp at h⟩
theorem Outs.imp {F' : Nat → Prop} (h : Outs w F L ls) (f : ∀ u l, OutT w F u l → OutT w' F' u l) : Outs w' F' L ls := ⟨h.1, fun j l hl => by
  obtain ⟨u, h1, h2⟩ := h.2 j l hl
  exact ⟨u, h1, f u l h2⟩⟩
theorem Outs.below (h : Outs w F L ls) (hb : Below w.heap.size w w') : Outs w' F L ls := h.imp fun _ _ q => q.below hb
theorem Outs.post (h : Outs w F L ls) (ho : Only F w w') : Outs w' (grow F w w') L ls := h.imp fun _ _ q => q.post ho
theorem Outs.snoc (h : Outs w F L ls) {u : Value} {l : List Nat} (hl : OutT w F u l) : Outs w F (L ++ [u]) (ls ++ [l]) :=
  ⟨by simp [h.1], fun j m hm => by
    rcases Nat.lt_trichotomy j ls.length with q | q | q
    · rw [List.getElem?_append_left q] at hm
      obtain ⟨u', h1, h2⟩ := h.2 j m hm
      exact ⟨u', by rw [List.getElem?_append_left (by rw [h.1]; exact q)]; exact h1, h2⟩
    · subst q
      rw [List.getElem?_append_right (Nat.le_refl _)] at hm
      simp at hm
      subst hm
      exact ⟨u, by rw [List.getElem?_append_right (by rw [h.1]; exact Nat.le_refl _), h.1]; simp, hl⟩
    · rw [List.getElem?_eq_none (by simp; omega)] at hm
      cases hm⟩
theorem Outs.reads (h : Outs w F L ls) : Reads w w.heap.size L ls := ⟨h.1, fun j l hl => by
  obtain ⟨u, h1, h2⟩ := h.2 j l hl
  obtain ⟨A, c, rfl, hc, hb⟩ := h2.bytes
  exact ⟨A, c, h1, hc, hb.bytes⟩⟩
end
end Go.Proofs.Ytnbbneldbagohaa
