/- page: the document's page as plain numbers. Conditions: none; no program in sight. -/
import Derived.Test.YtkknfccfgmflmaaPgInts
namespace Go.Proofs.Ytkknfccfgmflmaa
open Go.ChangeShapes Go.WideShapes Go.ChangeAt Go.RowKit
open NumMath
set_option linter.unusedVariables false
set_option linter.unusedSimpArgs false
set_option maxRecDepth 20000

structure RP where
  L : Nat
  N : Nat
  O : Nat → Nat
  S : Nat → Nat
  B : Nat → Nat
def rpV (r : RP) (i : Nat) : Value := if i = 0 then .int .u64 (r.L : Int) else if i = 1 then .int .u32 (r.N : Int) else if i < 42 then intV (r.O (i - 2)) else if i < 82 then intV (r.S (i - 42)) else byteV (r.B (i - 82))
def rpA (r : RP) : Array Value := ((List.range 530).map (rpV r)).toArray
theorem rpA_cell (r : RP) (i : Nat) (h : i < 530) : (rpA r)[i]? = some (rpV r i) := by
  unfold rpA
  rw [List.getElem?_toArray, List.getElem?_map, List.getElem?_range h]
  rfl
def up1 (f : Nat → Nat) (k v : Nat) : Nat → Nat := fun i => if i = k then v else f i
theorem rpA_set (r r' : RP) (i : Nat) (u : Value) (h : ∀ j, j < 530 → rpV r' j = if i = j then u else rpV r j) : (rpA r).setIfInBounds i u = rpA r' := by
  unfold rpA
  rw [List.setIfInBounds_toArray]
  refine congrArg List.toArray (List.ext_getElem ?_ ?_)
  · rw [List.length_set, List.length_map, List.length_map]
  · intro j h1 h2
    have hj : j < 530 := by rw [List.length_map, List.length_range] at h2; exact h2
    rw [List.getElem_set, List.getElem_map, List.getElem_map, List.getElem_range, h j hj]
theorem rpA_L (r : RP) (v : Nat) : (rpA r).setIfInBounds 0 (.int .u64 (v : Int)) = rpA { r with L := v } := rpA_set _ _ _ _ fun j hj => by
  unfold rpV
  by_cases h : 0 = j
  · rw [if_pos h, if_pos h.symm]
  · have h0 : ¬ j = 0 := fun e => h e.symm
    rw [if_neg h, if_neg h0, if_neg h0]
theorem rpA_O (r : RP) (k v : Nat) (hk : k < 40) : (rpA r).setIfInBounds (2 + k) (.int .i64 (v : Int)) = rpA { r with O := up1 r.O k v } := rpA_set _ _ _ _ fun j hj => by
  unfold rpV up1
  by_cases h : 2 + k = j
  · subst h
    rw [if_pos rfl, if_neg (by omega), if_neg (by omega), if_pos (by omega)]
    simp [intV]
  · rw [if_neg h]
    by_cases h0 : j = 0
    · rw [if_pos h0, if_pos h0]
    by_cases h1 : j = 1
    · rw [if_neg h0, if_neg h0, if_pos h1, if_pos h1]
    rw [if_neg h0, if_neg h0, if_neg h1, if_neg h1]
    by_cases h2 : j < 42
    · rw [if_pos h2, if_pos h2]
      simp only
      rw [if_neg (by omega)]
    · rw [if_neg h2, if_neg h2]
theorem rpA_S (r : RP) (k v : Nat) (hk : k < 40) : (rpA r).setIfInBounds (42 + k) (.int .i64 (v : Int)) = rpA { r with S := up1 r.S k v } := rpA_set _ _ _ _ fun j hj => by
  unfold rpV up1
  by_cases h : 42 + k = j
  · subst h
    rw [if_pos rfl, if_neg (by omega), if_neg (by omega), if_neg (by omega), if_pos (by omega)]
    simp [intV]
  · rw [if_neg h]
    by_cases h0 : j = 0
    · rw [if_pos h0, if_pos h0]
    by_cases h1 : j = 1
    · rw [if_neg h0, if_neg h0, if_pos h1, if_pos h1]
    rw [if_neg h0, if_neg h0, if_neg h1, if_neg h1]
    by_cases h2 : j < 42
    · rw [if_pos h2, if_pos h2]
    · rw [if_neg h2, if_neg h2]
      by_cases h3 : j < 82
      · rw [if_pos h3, if_pos h3]
        simp only
        rw [if_neg (by omega)]
      · rw [if_neg h3, if_neg h3]
theorem rpA_B (r : RP) (k v : Nat) (hk : k < 448) : (rpA r).setIfInBounds (82 + k) (.int .u8 (v : Int)) = rpA { r with B := up1 r.B k v } := rpA_set _ _ _ _ fun j hj => by
  unfold rpV up1
  by_cases h : 82 + k = j
  · subst h
    rw [if_pos rfl, if_neg (by omega), if_neg (by omega), if_neg (by omega), if_neg (by omega)]
    simp [byteV]
  · rw [if_neg h]
    by_cases h0 : j = 0
    · rw [if_pos h0, if_pos h0]
    by_cases h1 : j = 1
    · rw [if_neg h0, if_neg h0, if_pos h1, if_pos h1]
    rw [if_neg h0, if_neg h0, if_neg h1, if_neg h1]
    by_cases h2 : j < 42
    · rw [if_pos h2, if_pos h2]
    · rw [if_neg h2, if_neg h2]
      by_cases h3 : j < 82
      · rw [if_pos h3, if_pos h3]
      · rw [if_neg h3, if_neg h3]
        simp only
        rw [if_neg (by omega)]
/-- its numbers fit -/
structure RFit (r : RP) : Prop where
  l64 : r.L < 18446744073709551616
  n32 : r.N < 4294967296
  fit : ∀ s, s < 40 → r.O s + r.S s ≤ 448 ∧ r.S s ≤ 64
  small : ∀ i, r.B i < 256
structure RAt (w : World) (gr : Nat) (r : RP) : Prop extends RFit r where
  blk : Blk w gr 70 (rpA r)
section
variable {w w' : World} {gr : Nat} {r : RP} {S : Nat → Prop}
theorem RAt.lt (h : RAt w gr r) : gr < w.heap.size := h.blk.lt
theorem RAt.only (h : RAt w gr r) (ho : Only S w w') (hs : ¬ S gr) : RAt w' gr r := ⟨h.toRFit, h.blk.only ho hs⟩
theorem RAt.below (h : RAt w gr r) (hb : Below w.heap.size w w') : RAt w' gr r := ⟨h.toRFit, h.blk.below hb h.lt⟩
theorem rpc_L (h : Blk w gr 70 (rpA r)) : w.cell? ⟨gr, 0, none⟩ = some (.int .u64 (r.L : Int)) := by
  rw [h.cell 0, rpA_cell r 0 (by omega)]; rfl
theorem rpc_N (h : Blk w gr 70 (rpA r)) : w.cell? ⟨gr, 1, none⟩ = some (.int .u32 (r.N : Int)) := by
  rw [h.cell 1, rpA_cell r 1 (by omega)]; rfl
theorem rpc_O (h : Blk w gr 70 (rpA r)) {k : Nat} (hk : k < 40) : w.cell? ⟨gr, 2 + k, none⟩ = some (.int .i64 (r.O k : Nat)) := by
  rw [h.cell (2 + k), rpA_cell r (2 + k) (by omega)]
  unfold rpV
  rw [if_neg (by omega), if_neg (by omega), if_pos (by omega), Nat.add_sub_cancel_left]
  rfl
theorem rpc_S (h : Blk w gr 70 (rpA r)) {k : Nat} (hk : k < 40) : w.cell? ⟨gr, 42 + k, none⟩ = some (.int .i64 (r.S k : Nat)) := by
  rw [h.cell (42 + k), rpA_cell r (42 + k) (by omega)]
  unfold rpV
  rw [if_neg (by omega), if_neg (by omega), if_neg (by omega), if_pos (by omega), Nat.add_sub_cancel_left]
  rfl
theorem rpc_B (h : Blk w gr 70 (rpA r)) {k : Nat} (hk : k < 448) : w.cell? ⟨gr, 82 + k, none⟩ = some (.int .u8 (r.B k : Nat)) := by
  rw [h.cell (82 + k), rpA_cell r (82 + k) (by omega)]
  unfold rpV
  rw [if_neg (by omega), if_neg (by omega), if_neg (by omega), if_neg (by omega), Nat.add_sub_cancel_left]
  rfl
theorem rpb_L (h : Blk w gr 70 (rpA r)) (v : Nat) : Blk (w.setCell ⟨gr, 0, none⟩ (.int .u64 (v : Int))) gr 70 (rpA { r with L := v }) := by
  have := h.set_ 0 (.int .u64 (v : Int)); rwa [rpA_L] at this
theorem rpb_O (h : Blk w gr 70 (rpA r)) (k v : Nat) (hk : k < 40) : Blk (w.setCell ⟨gr, 2 + k, none⟩ (.int .i64 (v : Int))) gr 70 (rpA { r with O := up1 r.O k v }) := by
  have := h.set_ (2 + k) (.int .i64 (v : Int)); rwa [rpA_O _ _ _ hk] at this
theorem rpb_S (h : Blk w gr 70 (rpA r)) (k v : Nat) (hk : k < 40) : Blk (w.setCell ⟨gr, 42 + k, none⟩ (.int .i64 (v : Int))) gr 70 (rpA { r with S := up1 r.S k v }) := by
  have := h.set_ (42 + k) (.int .i64 (v : Int)); rwa [rpA_S _ _ _ hk] at this
theorem rpb_B (h : Blk w gr 70 (rpA r)) (k v : Nat) (hk : k < 448) : Blk (w.setCell ⟨gr, 82 + k, none⟩ (.int .u8 (v : Int))) gr 70 (rpA { r with B := up1 r.B k v }) := by
  have := h.set_ (82 + k) (.int .u8 (v : Int)); rwa [rpA_B _ _ _ hk] at this
end
/-- what a writing function leaves -/
def RPost (gr : Nat) (r : RP) (w w' : World) : Prop := RAt w' gr r ∧ Only (fun b => b = gr) w w'
theorem RPost.refl {w : World} {gr : Nat} {r : RP} (h : RAt w gr r) : RPost gr r w w := ⟨h, Only.refl _ _⟩
theorem RPost.trans {w w1 w2 : World} {gr : Nat} {r q : RP} (h : RPost gr r w w1) (h2 : RPost gr q w1 w2) : RPost gr q w w2 := ⟨h2.1, h.2.trans h2.2 fun _ q => .inl q⟩
theorem RPost.from {w w1 w2 : World} {gr : Nat} {q : RP} (hb : Below w.heap.size w w1) (h2 : RPost gr q w1 w2) : RPost gr q w w2 := ⟨h2.1, (Only.of_below hb _).trans h2.2 fun _ q => .inl q⟩

/-! what its functions say -/
def lowS (r : RP) : Nat → Nat
  | 0 => 448
  | k + 1 => if 0 < r.S k then min (lowS r k) (r.O k) else lowS r k
theorem lowS_le (r : RP) (k : Nat) : lowS r k ≤ 448 := by
  induction k with
  | zero => exact Nat.le_refl _
  | succ k ih => unfold lowS; split <;> omega
def allS (S : Nat → Nat) (b : Int) : Nat → Nat
  | 0 => 0
  | k + 1 => if (k : Int) = b then allS S b k else allS S b k + S k
theorem allS_le (S : Nat → Nat) (b : Int) (k : Nat) (h : ∀ s, s < k → S s ≤ 64) : allS S b k ≤ 64 * k := by
  induction k with
  | zero => exact Nat.le_refl _
  | succ k ih =>
    have := h k (by omega)
    have := ih fun s hs => h s (by omega)
    unfold allS
    split <;> omega
theorem topN_le (n : Nat → Nat) (k : Nat) : topN n k ≤ k := by
  induction k with
  | zero => exact Nat.le_refl _
  | succ k ih => unfold topN; split <;> omega
def slotsS (S : Nat → Nat) (k : Nat) : List Nat := (List.range k).filter fun s => decide (0 < S s)
theorem slotsS_next (S : Nat → Nat) (k : Nat) : slotsS S (k + 1) = slotsS S k ++ (if 0 < S k then [k] else []) := by
  unfold slotsS
  rw [List.range_succ, List.filter_append]
  congr 1
  by_cases h : 0 < S k
  · rw [if_pos h]; simp [h]
  · rw [if_neg h]; simp [h]
theorem slotsS_len (S : Nat → Nat) (k : Nat) : (slotsS S k).length ≤ k := by
  unfold slotsS
  have := List.length_filter_le (fun s => decide (0 < S s)) (List.range k)
  rw [List.length_range] at this
  exact this
def entL (r : RP) : Nat → List Nat
  | 0 => []
  | k + 1 => entL r k ++ putF 2 (r.O k) ++ putF 2 (r.S k)
theorem entL_length (r : RP) (k : Nat) : (entL r k).length = 4 * k := by
  induction k with
  | zero => rfl
  | succ k ih =>
    show (entL r k ++ putF 2 (r.O k) ++ putF 2 (r.S k)).length = _
    rw [List.length_append, List.length_append, ih, putF_length, putF_length]
    omega
def headL (r : RP) : List Nat := putF 8 r.L ++ putF 4 r.N ++ putF 2 (topN r.S 40) ++ putF 2 (lowS r 40)
theorem headL_length (r : RP) : (headL r).length = 16 := by
  unfold headL
  simp only [List.length_append, putF_length]
def bytesR (r : RP) : List Nat := headL r ++ entL r (topN r.S 40) ++ cut r.B (16 + 4 * topN r.S 40) (448 - (16 + 4 * topN r.S 40))
def getR (r : RP) (s : Int) : List Nat := if 0 ≤ s ∧ s < 40 then cut r.B (r.O s.toNat) (r.S s.toNat) else []
def clearRR (r : RP) (s : Nat) : RP := { r with O := up1 r.O s 0, S := up1 r.S s 0, B := upd r.B (r.O s) (List.replicate (r.S s) 0) }
def clearR (r : RP) (s : Int) : RP := if 0 ≤ s ∧ s < 40 ∧ 0 < r.S s.toNat then clearRR r s.toNat else r
def togK (r : RP) : Nat → Nat × (Nat → Nat) × (Nat → Nat)
  | 0 => (448, r.O, zeroF)
  | k + 1 => if 0 < r.S k then ((togK r k).1 - r.S k, up1 (togK r k).2.1 k ((togK r k).1 - r.S k), upd (togK r k).2.2 ((togK r k).1 - r.S k) (cut r.B (r.O k) (r.S k))) else togK r k
def togR (r : RP) : RP := { r with O := (togK r 40).2.1, B := (togK r 40).2.2 }
def putR (r : RP) (s : Nat) (d : List Nat) : RP := { r with O := up1 r.O s (lowS r 40 - d.length), S := up1 r.S s d.length, B := upd r.B (lowS r 40 - d.length) d }
def midR (r : RP) (s n : Nat) (d : List Nat) : RP := if lowS (clearR r s) 40 < 16 + 4 * n + d.length then togR (clearR r s) else clearR r s
def setRR (r : RP) (s : Nat) (d : List Nat) : RP :=
  if r.S s = d.length then { r with B := upd r.B (r.O s) d } else putR (midR r s (max (topN r.S 40) (s + 1)) d) s d
def setRP (r : RP) (s : Int) (d : List Nat) : Nat × RP :=
  if 0 ≤ s ∧ s < 40 ∧ 1 ≤ d.length ∧ d.length ≤ 64 then (if 448 < 16 + 4 * max (topN r.S 40) (s.toNat + 1) + allS r.S s 40 + d.length then (92, r) else (0, setRR r s.toNat d)) else (91, r)
end Go.Proofs.Ytkknfccfgmflmaa
