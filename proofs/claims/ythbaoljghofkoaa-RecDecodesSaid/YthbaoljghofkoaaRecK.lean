/- rec: the reader's tables: plain, and a table in memory that grows. Conditions: none. -/
import Derived.Test.YthbaoljghofkoaaRecQ
import Derived.Test.YthbaoljghofkoaaRecT
import Derived.Test.YthbaoljghofkoaaAppRow
namespace Go.Proofs.Ythbaoljghofkoaa
open Go.ChangeShapes Go.WideShapes Go.ChangeAt Go.RowKit
open NumMath
set_option linter.unusedVariables false
set_option linter.unusedSimpArgs false
set_option maxRecDepth 20000

def txP (l : List Nat) : Option (TxP × List Nat) :=
  (numP 4 l).bind fun a => (numP 8 a.2).bind fun b => (numP 8 b.2).bind fun c => (numP 1 c.2).bind fun d => some (⟨a.1, b.1, c.1, d.1⟩, d.2)
def dirP (l : List Nat) : Option (DirP × List Nat) := (numP 4 l).bind fun a => (numP 8 a.2).bind fun b => some (⟨a.1, b.1⟩, b.2)
def txsK : Nat → List Nat → Option (List TxP × List Nat)
  | 0, l => some ([], l)
  | k + 1, l => (txsK k l).bind fun q => (txP q.2).bind fun x => some (q.1 ++ [x.1], x.2)
def dirsK : Nat → List Nat → Option (List DirP × List Nat)
  | 0, l => some ([], l)
  | k + 1, l => (dirsK k l).bind fun q => (dirP q.2).bind fun x => some (q.1 ++ [x.1], x.2)
def tabP (l : List Nat) : Option ((List TxP × List DirP) × List Nat) :=
  (numP 1 l).bind fun n => (txsK n.1 n.2).bind fun t => (numP 1 t.2).bind fun m => (dirsK m.1 m.2).bind fun d => some ((t.1, d.1), d.2)
theorem txsK_none {k n : Nat} {l : List Nat} (h : txsK k l = none) (hk : k ≤ n) : txsK n l = none := by
  induction n with
  | zero => obtain rfl : k = 0 := by omega
            exact h
  | succ n ih =>
    rcases Nat.lt_or_ge k (n + 1) with z | z
    · show (txsK n l).bind _ = none
      rw [ih (by omega)]
      rfl
    · obtain rfl : k = n + 1 := by omega
      exact h
theorem dirsK_none {k n : Nat} {l : List Nat} (h : dirsK k l = none) (hk : k ≤ n) : dirsK n l = none := by
  induction n with
  | zero => obtain rfl : k = 0 := by omega
            exact h
  | succ n ih =>
    rcases Nat.lt_or_ge k (n + 1) with z | z
    · show (dirsK n l).bind _ = none
      rw [ih (by omega)]
      rfl
    · obtain rfl : k = n + 1 := by omega
      exact h
theorem getL_take_lt {l : List Nat} (h : Small l) (m : Nat) : getL (l.take m) < 256 ^ m := by
  have := getL_lt (l.take m) (fun x hx => h x (List.mem_of_mem_take hx))
  exact Nat.lt_of_lt_of_le this (Nat.pow_le_pow_right (n := 256) (by omega) (by rw [List.length_take]; omega))
theorem small_drop {l : List Nat} (h : Small l) (m : Nat) : Small (l.drop m) := fun x hx => h x (List.mem_of_mem_drop hx)
/-- one number of a table's row -/
theorem num_step (m : Nat) (h8 : m ≤ 8) (l : List Nat) (hs : Small l) (hl : l.length ≤ 100000) : ∃ a l', getL (l.take m) = a ∧ l.drop m = l' ∧ a < 256 ^ m ∧ Small l' ∧ l'.length ≤ 100000 ∧ (m ≤ l.length → numP m l = some (a, l')) ∧ (l.length < m → numP m l = none) ∧
    ∀ (B p : Nat) (W0 w : World), RdE B p W0 l w → Calls Try.prog 47 #[.pointer (some ⟨p, 0, none⟩), .int .i64 m] w fun e w' => (m ≤ l.length ∧ e = .returned (.int .u64 (a : Nat)) ∧ RdE B p W0 l' w') ∨ (l.length < m ∧ e = .panicked BadP ∧ RdE B p W0 l w') :=
  ⟨_, _, rfl, rfl, getL_take_lt hs m, small_drop hs m, by rw [List.length_drop]; omega, numP_some, numP_none, fun B p W0 w h => num_any m h8 h hl⟩
theorem RdE.rebase {B p : Nat} {w w' : World} {l : List Nat} {S : Nat → Prop} (h : RdE B p w l w) (hO : Only S w w') (hp : ¬ S p) (hB : ∀ b, S b → B ≤ b) : RdE B p w' l w' := by
  obtain ⟨A, c, z⟩ := h
  have hk := z.blk.only hO hp
  exact ⟨A, c, hk, z.by_.below (hO.below (Nat.le_trans z.bp (Nat.le_of_lt z.plt)) hB), z.cap, Only.refl _ _, z.bp, hk.lt⟩
/-- a table's row in the record in block bx -/
structure TabI (B p bx : Nat) (cs : Array Value) (W0 : World) (e : TypeId) (size i : Nat) (cells : List Value) (n : Nat) (l : List Nat) (w : World) (A : Option Addr) (c : Nat) : Prop where
  blk : Blk w bx 31 (cs.setIfInBounds i (.slice A n c))
  own : w.ownsRow W0.heap.size e size (.slice A n c) n cells
  rd : RdE B p w l w
  only : Only (fun b => b = p ∨ b = bx) W0 w
section
variable {B p bx size i n : Nat} {cs : Array Value} {W0 w : World} {e : TypeId} {cells : List Value} {l l' : List Nat} {A : Option Addr} {c : Nat}
theorem TabI.ne (h : TabI B p bx cs W0 e size i cells n l w A c) : bx ≠ p := by
  obtain ⟨v, hv⟩ := h.rd.blk
  exact h.blk.ne_ hv (by decide)
theorem TabI.away (h : TabI B p bx cs W0 e size i cells n l w A c) (he : e ≠ 31) (he2 : e ≠ 79) : (∀ k, (Value.slice A n c).ownBlock = some k → k ≠ p ∧ k ≠ bx) := fun k hk => by
  obtain ⟨v, hv⟩ := h.rd.blk
  constructor
  · intro q
    rcases own_block he2 h.own hv with z | z
    · rw [z] at hk; cases hk
    · rw [q] at hk; exact z hk
  · intro q
    rcases own_block he h.own h.blk with z | z
    · rw [z] at hk; cases hk
    · rw [q] at hk; exact z hk
/-- the calls of a round -/
theorem TabI.read (h : TabI B p bx cs W0 e size i cells n l w A c) (he : e ≠ 31) (he2 : e ≠ 79) {w5 : World} (h5 : RdE B p w.drew l' w5) : TabI B p bx cs W0 e size i cells n l' w5 A c := by
  have hO : Only (fun b => b = p) w w5 := (Only.of_below (below_drew0 w) (fun b => b = p)).trans h5.only fun b q => .inl q
  exact ⟨h.blk.only hO h.ne, hO.own h.own fun k hk => (h.away he he2 k hk).1, h5.here, h.only.trans hO fun b q => .inl (.inl q)⟩
theorem TabI.step (h : TabI B p bx cs W0 e size i cells n l w A c) (he : e ≠ 31) (he2 : e ≠ 79) (hW : B ≤ W0.heap.size) (hB : B ≤ bx) (hbx : bx < W0.heap.size) (o : Obj) {news : List Value} {w7 : World} {A7 : Option Addr} {c7 : Nat}
    (ho : w7.ownsRow W0.heap.size e size (.slice A7 (n + 1) c7) (n + 1) (cells ++ news)) (hg : (w.alloc o).grownBy w7 (Value.slice A n c).ownBlock) :
    Blk w7 bx 31 (cs.setIfInBounds i (.slice A n c)) ∧ TabI B p bx cs W0 e size i (cells ++ news) (n + 1) l (w7.setCell ⟨bx, i, none⟩ (.slice A7 (n + 1) c7)) A7 c7 := by
  have haw := h.away he he2
  have hb : Below w.heap.size w (w.alloc o) := (Below.refl _ w).alloc (Nat.le_refl _) o
  have hO1 : Only (fun b => (Value.slice A n c).ownBlock = some b) w w7 := (Only.of_below hb _).trans (Only.of_grown (S := fun b => (Value.slice A n c).ownBlock = some b) hg fun k hk => .inl hk) fun b q => .inl q
  have hk := h.blk.only hO1 fun q => (haw _ q).2 rfl
  have hO2 : Only (fun b => (Value.slice A n c).ownBlock = some b ∨ b = bx) w (w7.setCell ⟨bx, i, none⟩ (.slice A7 (n + 1) c7)) := (hO1.mono fun b q => .inl (.inl q)).setCell (p := ⟨bx, i, none⟩) (.inl (.inr rfl)) _
  have hlow : ∀ k, (Value.slice A n c).ownBlock = some k → W0.heap.size ≤ k := fun k hk => (h.own.lt k hk).1
  refine ⟨hk, ?_, ?_, ?_, ?_⟩
  · have := hk.set_ i (.slice A7 (n + 1) c7)
    rwa [Array.setIfInBounds_setIfInBounds] at this
  · exact ho.kept (row := some bx) (((Only.refl (fun b => b = bx) w7).setCell (p := ⟨bx, i, none⟩) (.inl rfl) _).grown (fun k hk => by rw [hk])) ((own_block he ho hk).imp id id)
  · exact h.rd.rebase hO2 (fun q => q.elim (fun q => (haw _ q).1 rfl) fun q => h.ne q.symm) fun b q => q.elim (fun q => Nat.le_trans hW (hlow b q)) fun q => by rw [q]; exact hB
  · exact h.only.trans hO2 fun b q => q.elim (fun q => .inr (hlow b q)) fun q => .inl (.inr q)
end
theorem tx_info : (Try.prog.info? 64).map (fun i => (i.zero, i.size, i.bytes)) = some (some (.agg #[.int .u32 0, .int .u64 0, .int .u64 0, .int .u8 0]), 4, 32) := by kernel_rfl
theorem dir_info : (Try.prog.info? 66).map (fun i => (i.zero, i.size, i.bytes)) = some (some (.agg #[.int .u32 0, .int .u64 0]), 2, 16) := by kernel_rfl
end Go.Proofs.Ythbaoljghofkoaa
