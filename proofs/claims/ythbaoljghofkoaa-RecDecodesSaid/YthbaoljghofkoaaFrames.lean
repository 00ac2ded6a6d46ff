/- Words for what a call leaves: only the blocks of a set, and new ones, have turned. Conditions: none; no program in sight. -/
import Derived.Test.YthbaoljghofkoaaWords
namespace Go.Proofs.Ythbaoljghofkoaa
open Go.RowKit
set_option linter.unusedVariables false

/-- Only the blocks of S, and new ones, have turned. -/
structure Only (S : Nat → Prop) (w w' : World) : Prop where
  os : w'.os = w.os
  tape : w'.tape = w.tape
  output : w'.output = w.output
  size : w.heap.size ≤ w'.heap.size
  block : ∀ b, b < w.heap.size → ¬ S b → w'.heap[b]? = w.heap[b]?

section
variable {S S' : Nat → Prop} {w w' w1 w2 : World}
theorem Only.refl (S : Nat → Prop) (w : World) : Only S w w := ⟨rfl, rfl, rfl, Nat.le_refl _, fun _ _ _ => rfl⟩
theorem Only.trans (h : Only S w w1) (k : Only S' w1 w2) (hs : ∀ b, S' b → S b ∨ w.heap.size ≤ b) : Only S w w2 :=
  ⟨k.os.trans h.os, k.tape.trans h.tape, k.output.trans h.output, Nat.le_trans h.size k.size, fun b hb hn =>
    (k.block b (Nat.lt_of_lt_of_le hb h.size) (fun q => (hs b q).elim hn (fun q' => by omega))).trans (h.block b hb hn)⟩
theorem Only.mono (h : Only S w w') (hs : ∀ b, S b → S' b ∨ w.heap.size ≤ b) : Only S' w w' :=
  ⟨h.os, h.tape, h.output, h.size, fun b hb hn => h.block b hb (fun q => (hs b q).elim hn (fun q' => by omega))⟩
theorem Only.of_below (h : Below w.heap.size w w') (S : Nat → Prop) : Only S w w' := ⟨h.os, h.tape, h.output, h.size, fun b hb _ => h.block b hb⟩
theorem Only.of_grown {row : Option Nat} (h : w.grownBy w' row) (hs : ∀ k, row = some k → S k ∨ w.heap.size ≤ k) : Only S w w' :=
  ⟨h.os, h.tape, h.output, h.size, fun b hb hn => h.block b hb (fun e => (hs b e.symm).elim hn (fun q' => by omega))⟩
theorem Only.grown (h : Only S w w') {row : Option Nat} (hs : ∀ k, S k → some k = row) : w.grownBy w' row :=
  ⟨h.os, h.tape, h.output, h.size, fun b hb hn => h.block b hb (fun q => hn (hs b q))⟩
theorem Only.below (h : Only S w w') {B : Nat} (hB : B ≤ w.heap.size) (hs : ∀ b, S b → B ≤ b) : Below B w w' :=
  ⟨h.os, h.tape, h.output, h.size, fun b hb => h.block b (by omega) (fun q => by have := hs b q; omega)⟩
theorem Only.alloc (h : Only S w w') (o : Obj) : Only S w (w'.alloc o) :=
  h.trans (Only.of_below ((Below.refl _ _).alloc (Nat.le_refl _) o) S) fun b q => .inl q
theorem Only.drewN (h : Only S w w') (n : Nat) : Only S w (w'.drewN n) := ⟨h.os, h.tape, h.output, h.size, h.block⟩
theorem Only.drew (h : Only S w w') : Only S w w'.drew := ⟨h.os, h.tape, h.output, h.size, h.block⟩
theorem Only.setCell (h : Only S w w') {p : Addr} (hp : S p.block ∨ w.heap.size ≤ p.block) (u : Value) : Only S w (w'.setCell p u) :=
  ⟨h.os, h.tape, h.output, by simpa [World.setCell] using h.size, fun b hb hn => (Below.heap_setCell w' p u b (by
    rintro rfl
    rcases hp with q | q
    · exact hn q
    · omega)).trans (h.block b hb hn)⟩
theorem Only.cell (h : Only S w w') {p : Addr} (hp : p.block < w.heap.size) (hs : ¬ S p.block) : w'.cell? p = w.cell? p := World.cell?_of_block (h.block p.block hp hs)
theorem Only.own (h : Only S w w') {base : Nat} {e : TypeId} {size : Nat} {v : Value} {n : Nat} {xs : List Value} (ho : w.ownsRow base e size v n xs) (hs : ∀ k, v.ownBlock = some k → ¬ S k) : w'.ownsRow base e size v n xs := by
  refine ⟨ho.1, ?_⟩
  rcases ho.2 with q | ⟨g, cap, cur, rfl, hb, hgg, rest⟩
  · exact .inl q
  · exact .inr ⟨g, cap, cur, rfl, hb, (h.block g (ho.lt g rfl).2 (hs g rfl)).trans hgg, rest⟩
end

theorem grown_drew {a w : World} {row : Option Nat} (h : a.grownBy w row) : a.grownBy w.drew row := ⟨h.os, h.tape, h.output, h.size, h.block⟩
theorem grown_drewN {a w : World} {row : Option Nat} (h : a.grownBy w row) (n : Nat) : a.grownBy (w.drewN n) row := ⟨h.os, h.tape, h.output, h.size, h.block⟩
/-- The slice at address A reads as the values xs, in blocks of S. -/
def AtIn (w : World) (S : Nat → Prop) (A : Option Addr) (xs : List Value) : Prop :=
  ∀ j (h : j < xs.length), ∃ b o, A = some ⟨b, o, none⟩ ∧ S b ∧ b < w.heap.size ∧ w.cell? ⟨b, o + j, none⟩ = some xs[j]
theorem AtIn.at_ {w : World} {S : Nat → Prop} {A : Option Addr} {xs : List Value} (h : AtIn w S A xs) : At w w.heap.size A xs := fun j hj => by
  obtain ⟨b, o, e, _, hb, hc⟩ := h j hj
  exact ⟨b, o, e, hb, hc⟩
/-- a set of blocks stays as it is -/
def Stays (S : Nat → Prop) (w w' : World) : Prop := w.heap.size ≤ w'.heap.size ∧ ∀ b, S b → b < w.heap.size → w'.heap[b]? = w.heap[b]?
theorem AtIn.stays {w w' : World} {S : Nat → Prop} {A : Option Addr} {xs : List Value} (h : AtIn w S A xs) (hs : Stays S w w') : AtIn w' S A xs := fun j hj => by
  obtain ⟨b, o, e, h1, h2, hc⟩ := h j hj
  exact ⟨b, o, e, h1, Nat.lt_of_lt_of_le h2 hs.1, (World.cell?_of_block (a := ⟨b, o + j, none⟩) (hs.2 b h1 h2)).trans hc⟩
theorem AtIn.mono {w : World} {S S' : Nat → Prop} {A : Option Addr} {xs : List Value} (h : AtIn w S A xs) (hs : ∀ b, S b → S' b) : AtIn w S' A xs := fun j hj => by
  obtain ⟨b, o, e, h1, h2, hc⟩ := h j hj
  exact ⟨b, o, e, hs b h1, h2, hc⟩
theorem Only.stays {S T : Nat → Prop} {w w' : World} (h : Only S w w') (hd : ∀ b, T b → ¬ S b) : Stays T w w' := ⟨h.size, fun b hb hl => h.block b hl (hd b hb)⟩
theorem Stays.trans {S : Nat → Prop} {w w1 w2 : World} (h : Stays S w w1) (k : Stays S w1 w2) : Stays S w w2 := ⟨Nat.le_trans h.1 k.1, fun b hb hl => (k.2 b hb (Nat.lt_of_lt_of_le hl h.1)).trans (h.2 b hb hl)⟩
theorem Stays.mono {S T : Nat → Prop} {w w' : World} (h : Stays S w w') (hs : ∀ b, T b → S b) : Stays T w w' := ⟨h.1, fun b hb hl => h.2 b (hs b hb) hl⟩
def BytesIn (w : World) (S : Nat → Prop) (A : Option Addr) (l : List Nat) : Prop := AtIn w S A (l.map byteV) ∧ Small l
theorem BytesIn.bytes {w : World} {S : Nat → Prop} {A : Option Addr} {l : List Nat} (h : BytesIn w S A l) : Bytes w w.heap.size A l := ⟨h.1.at_, h.2⟩
theorem BytesIn.stays {w w' : World} {S : Nat → Prop} {A : Option Addr} {l : List Nat} (h : BytesIn w S A l) (hs : Stays S w w') : BytesIn w' S A l := ⟨h.1.stays hs, h.2⟩
theorem BytesIn.mono {w : World} {S S' : Nat → Prop} {A : Option Addr} {l : List Nat} (h : BytesIn w S A l) (hs : ∀ b, S b → S' b) : BytesIn w S' A l := ⟨h.1.mono hs, h.2⟩
theorem BytesIn.nil (w : World) (S : Nat → Prop) (A : Option Addr) : BytesIn w S A [] := ⟨fun j hj => absurd hj (by simp), fun x hx => by cases hx⟩
theorem AtIn.own {w : World} {base : Nat} {e : TypeId} {A : Option Addr} {n m c : Nat} {xs : List Value} (h : w.ownsRow base e 1 (.slice A n c) m xs) : AtIn w (fun b => some b = (Value.slice A n c).ownBlock) A xs := fun j hj => by
  obtain ⟨b, o, e', hb, hc⟩ := At.own h j hj
  have hl := h.1
  obtain ⟨g, hA, hg, hg'⟩ : ∃ g, A = some ⟨g, 0, none⟩ ∧ base ≤ g ∧ g < w.heap.size := by
    rcases h.2 with ⟨_, rfl⟩ | ⟨g, cap, cur, hv, hg, _⟩
    · omega
    · injection hv with hA _ _
      subst hA
      exact ⟨g, rfl, h.lt g rfl⟩
  subst hA
  injection e' with e'
  injection e' with e1 e2
  subst e1
  subst e2
  exact ⟨g, 0, rfl, by simp [Value.ownBlock], hb, hc⟩

/-- Block g is just these cells. -/
def Blk (w : World) (g : Nat) (t : TypeId) (cs : Array Value) : Prop := w.heap[g]? = some (.cells cs t (0, 0))
section
variable {w w' : World} {g : Nat} {t : TypeId} {cs : Array Value}
theorem Blk.lt (h : Blk w g t cs) : g < w.heap.size := by
  rcases Nat.lt_or_ge g w.heap.size with hlt | hge
  · exact hlt
  · unfold Blk at h; rw [Array.getElem?_eq_none hge] at h; cases h
theorem Blk.cell (h : Blk w g t cs) : ∀ i, w.cell? ⟨g, i, none⟩ = cs[i]? := fun i => by
  unfold Blk at h
  simp only [World.cell?, h]
  simp
theorem Blk.frozen (h : Blk w g t cs) : ∀ i, w.frozen? ⟨g, i, none⟩ = false := fun i => by
  unfold Blk at h
  simp [World.frozen?, h]
theorem Blk.new (w : World) (t : TypeId) (cs : Array Value) : Blk (w.alloc (.cells cs t)) w.heap.size t cs := heap_alloc_new w _
theorem Blk.drew (h : Blk w g t cs) : Blk w.drew g t cs := h
theorem Blk.drewN (h : Blk w g t cs) (n : Nat) : Blk (w.drewN n) g t cs := h
theorem Blk.alloc (h : Blk w g t cs) (o : Obj) : Blk (w.alloc o) g t cs := (Below.heap_alloc w o g h.lt).trans h
theorem Blk.set_ (h : Blk w g t cs) (i : Nat) (u : Value) : Blk (w.setCell ⟨g, i, none⟩ u) g t (cs.setIfInBounds i u) := by
  unfold Blk at h ⊢
  simp [World.setCell, Array.getElem?_modify, h]
theorem Blk.far (h : Blk w g t cs) {p : Addr} (hp : g ≠ p.block) (u : Value) : Blk (w.setCell p u) g t cs := (Below.heap_setCell w p u g hp).trans h
theorem Blk.below {B : Nat} (h : Blk w g t cs) (hb : Below B w w') (hg : g < B) : Blk w' g t cs := (hb.block g hg).trans h
theorem Blk.grown {row : Option Nat} (h : Blk w g t cs) (hb : w.grownBy w' row) (hg : some g ≠ row) : Blk w' g t cs := (hb.block g h.lt hg).trans h
theorem Blk.only {S : Nat → Prop} (h : Blk w g t cs) (hb : Only S w w') (hg : ¬ S g) : Blk w' g t cs := (hb.block g h.lt hg).trans h
theorem Blk.ne_ {g' : Nat} {t' : TypeId} {cs' : Array Value} (h : Blk w g t cs) (h' : Blk w g' t' cs') (hne : t ≠ t') : g ≠ g' := by
  rintro rfl
  unfold Blk at h h'
  rw [h] at h'
  injection h' with h'
  injection h' with _ ht
  exact hne ht
end
end Go.Proofs.Ythbaoljghofkoaa
