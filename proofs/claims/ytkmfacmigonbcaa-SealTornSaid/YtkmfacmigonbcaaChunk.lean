/- slices.Chunk over bytes, by 112: the contract of its iterator, for every loop body that leaves its two boxes alone. Conditions: the slice's length ≤ 1000000. -/
import Derived.Test.YtkmfacmigonbcaaWords
import Derived.Test.YtkmfacmigonbcaaRef
import Derived.RangeFuncNested
import Derived.RangeFuncBound
import Derived.RangeFuncCalls
import Derived.RangeFuncLeaves
import Derived.RangeFuncBox
import Derived.Shelf.Abstract
import Derived.Shelf.RegionOpen
import Derived.WalkKit
import Derived.OwnWalkIn
import Derived.TacticsInMore
import Derived.LoopNIn
import Derived.LoopIn
import Derived.Maps.AppendAt
import Derived.Sort.BigQuietIn
import Derived.Sort.QuietIn
namespace Go.Proofs.Ytkmfacmigonbcaa
open Go.RowKit Go.Shelf
attribute [local go_sem] Oper.semAt_some
set_option linter.unusedVariables false
set_option linter.unusedSimpArgs false

/-- The k-th 112 bytes of l. -/
def chunkOf (l : List Nat) (k : Nat) : List Nat := (l.drop (112 * k)).take 112
/-- .. as the value that the iterator hands on. -/
def chunkV (A : Option Addr) (l : List Nat) (k : Nat) : Value := .slice (shift A (112 * k)) (chunkOf l k).length (chunkOf l k).length
/-- how many there are -/
def chunks (l : List Nat) : Nat := (l.length + 111) / 112
theorem chunkOf_length (l : List Nat) (k : Nat) : (chunkOf l k).length = min 112 (l.length - 112 * k) := by simp [chunkOf]

/-- Two boxes lie as they lay. -/
def Boxes2 (a b : Nat) (A B : World) : Prop := B.heap[a]? = A.heap[a]? ∧ B.heap[b]? = A.heap[b]?
theorem Boxes2.cell1 {a b : Nat} {A B : World} (h : Boxes2 a b A B) : B.cell? ⟨a, 0, none⟩ = A.cell? ⟨a, 0, none⟩ := World.cell?_of_block h.1
theorem Boxes2.cell2 {a b : Nat} {A B : World} (h : Boxes2 a b A B) : B.cell? ⟨b, 0, none⟩ = A.cell? ⟨b, 0, none⟩ := World.cell?_of_block h.2

set_option maxRecDepth 100000 in
set_option maxHeartbeats 2000000 in
theorem chunk1_in (n : Nat) (hn : 1 ≤ n) (l Bs Bn : Nat) (A : Option Addr) (zs : List Nat) (c : Nat) (hcap : zs.length ≤ c) (hlen : zs.length ≤ 1000000) (hA : zs ≠ [] → ∃ b o, A = some ⟨b, o, none⟩) (J Jx : List Nat → World → Prop) (Bj : Nat) (hJ : AbidesFrom Bj J)
    (hY : ∀ pre x W, J pre W → pre.length < chunks zs → YieldAt Fence.wide (n - 1) Try.prog l #[chunkV A zs x] W fun e W' =>
      (e = .returned (.bool true) ∧ J (pre ++ [x]) W' ∧ Boxes2 Bs Bn W W') ∨ (e = .returned (.bool false) ∧ Jx (pre ++ [x]) W'))
    (W : World) (hBs : W.cell? ⟨Bs, 0, none⟩ = some (.slice A zs.length c)) (hBn : W.cell? ⟨Bn, 0, none⟩ = some (.int .i64 112)) (h0 : J [] W) :
    CallsIn Fence.wide n Try.prog 25 #[.func (.yield l) #[] #[], .pointer (some ⟨Bs, 0, none⟩), .pointer (some ⟨Bn, 0, none⟩)] W fun e W' => (∃ v, e = .returned v) ∧
      ((∃ ys, ys = List.range (chunks zs) ∧ J ys W') ∨ (∃ pre, pre <+: List.range (chunks zs) ∧ Jx pre W')) := by
  refine callsIn_of_wp Try.func25 rfl trivial ?_ rfl
  simp only [Try.ntmps25, List.size_toArray, List.length_cons, List.length_nil, Nat.reduceAdd, Nat.reduceSub, Array.replicate_succ, Array.replicate_zero, List.push_toArray, List.append_toArray, List.nil_append, List.cons_append]
  gi_wp2
  gi_loopw [4] (fun i wr => ∃ k : Nat, k ≤ chunks zs ∧ i = .int .i64 ((112 * k : Nat) : Int) ∧ J (List.range k) wr ∧ wr.cell? ⟨Bs, 0, none⟩ = some (.slice A zs.length c) ∧ wr.cell? ⟨Bn, 0, none⟩ = some (.int .i64 112))
    (fun i _ => 2000000 - (intOf i).toNat)
  case atStart => exact ⟨0, Nat.zero_le _, rfl, h0, hBs, hBn⟩
  case round =>
    obtain ⟨k, hk, rfl, hJs, hc1, hc2⟩ := hrel
    have hch : chunks zs = (zs.length + 111) / 112 := rfl
    have hkk : (112 * k < zs.length) = (k < chunks zs) := by rw [hch]; simp only [eq_iff_iff]; omega
    obtain ⟨i, hi⟩ : ∃ i, 112 * k = i := ⟨_, rfl⟩
    rw [hi] at hkk ⊢
    by_cases hlt : k < chunks zs
    · have hil : i < zs.length := by rw [hkk]; exact hlt
      obtain ⟨b, o, rfl⟩ := hA (by intro e; rw [e] at hil; simp at hil)
      have ht : decide ((i : Int) < (zs.length : Int)) = true := by rw [decide_eq_true_iff]; omega
      obtain ⟨q, hq⟩ : ∃ q, (chunkOf zs k).length = q := ⟨_, rfl⟩
      have hq' : q = min 112 (zs.length - i) := by rw [← hq, chunkOf_length, hi]
      have hq2 : i + q ≤ zs.length := by omega
      have hq3 : i + q ≤ c := by omega
      have hm1 : (if ((zs.length - i : Nat) : Int) < 112 then ((zs.length - i : Nat) : Int) else 112) = (q : Int) := by split <;> omega
      have hm2 : (if (112 : Int) < ((zs.length - i : Nat) : Int) then (112 : Int) else ((zs.length - i : Nat) : Int)) = (q : Int) := by split <;> omega
      have hm3 : min 112 (zs.length - i) = q := hq'.symm
      replace hq' := Lib.hid hq'
      gi_wp2
      gi_quiet (skip)
      have hg : wr.grownBy (wr.drewN nq) none := ⟨rfl, rfl, rfl, Nat.le_refl _, fun _ _ _ => rfl⟩
      obtain ⟨fn, tmps, assign, body, hy, hR⟩ := hY _ k (wr.drewN nq) (hJ _ _ _ none hJs hg (by simp)) (by simpa using hlt)
      have hc3 : (wr.drewN nq).cell? ⟨Bs, 0, none⟩ = some (.slice (some ⟨b, o, none⟩) zs.length c) := hc1
      have hc4 : (wr.drewN nq).cell? ⟨Bn, 0, none⟩ = some (.int .i64 112) := hc2
      generalize hwq : World.drewN _ _ = w2 at hc3 hc4 hy hR ⊢
      simp only [chunkV, shift, hq, hi, Option.map] at hy
      clear hg hwq hc1 hc2 hBs hBn hJs h0
      gi_wp2
      refine hR.mono ?_
      clear hR hy
      rintro e W3 (⟨rfl, hJ3, hk3⟩ | ⟨rfl, hJx3⟩)
      · have hc5 := hk3.cell1.trans hc3
        have hc6 := hk3.cell2.trans hc4
        clear hc3 hc4
        have e1 : ((i : Int) + 112) = ((112 * (k + 1) : Nat) : Int) := by omega
        gi_wp2
        go_roundw
        case rel => exact ⟨k + 1, by omega, by first | rfl | (simp; omega) | (congr 1; omega), by rw [List.range_succ]; exact hJ3, hc5, hc6⟩
        case measure => simp [intOf]; omega
      · gi_wp2
        refine bodyPost_ret (results_none rfl _ _ _) rfl ?_
        refine ⟨⟨_, rfl⟩, .inr ⟨_, ?_, hJx3⟩⟩
        rw [← List.range_succ]
        obtain ⟨d, hd⟩ : ∃ d, chunks zs = (k + 1) + d := ⟨_, (Nat.add_sub_cancel' hlt).symm⟩
        rw [hd, List.range_add]
        exact List.prefix_append _ _
    · have hil : ¬ i < zs.length := by rw [hkk]; exact hlt
      have ht : decide ((i : Int) < (zs.length : Int)) = false := by rw [decide_eq_false_iff_not]; omega
      gi_wp2
      go_end0
      have hk' : k = chunks zs := by omega
      subst hk'
      exact ⟨⟨_, rfl⟩, .inl ⟨_, rfl, hJs⟩⟩
theorem Boxes2.t {a b : Nat} {A B C : World} (h : Boxes2 a b A B) (k : Boxes2 a b B C) : Boxes2 a b A C := ⟨k.1.trans h.1, k.2.trans h.2⟩
theorem Boxes2.b {a b : Nat} {w : World} (ha : a < w.heap.size) (hb : b < w.heap.size) (W : World) (l : Nat) (o o' : Obj) (hl : w.heap.size ≤ l) (h : W.heap[l]? = some o) (_ : o.isCells = false) (_ : o.isWalk = false) : Boxes2 a b W (W.putObj l o') :=
  ⟨World.putObj_heap_other (by omega), World.putObj_heap_other (by omega)⟩

set_option maxRecDepth 100000 in
set_option maxHeartbeats 1000000 in
theorem chunk_in (n : Nat) (A : Option Addr) (len c : Nat) (w : World) :
    CallsIn Fence.wide n Try.prog 20 #[.slice A len c, .int .i64 112] w fun e w' => e = .returned (.func (.func 25) #[] #[.pointer (some ⟨w.heap.size, 0, none⟩), .pointer (some ⟨w.heap.size + 1, 0, none⟩)]) ∧
      w' = (w.alloc (.cells #[.slice A len c] 22)).alloc (.cells #[.int .i64 112] 3) := by
  refine callsIn_of_wp Try.func20 rfl trivial ?_ rfl
  simp only [Try.ntmps20, List.size_toArray, List.length_cons, List.length_nil, Nat.reduceAdd, Nat.reduceSub, Array.replicate_succ, Array.replicate_zero, List.push_toArray, List.append_toArray, List.nil_append, List.cons_append]
  gi_wp2
  go_ret
  exact ⟨rfl, rfl⟩

theorem chunk_stops (n : Nat) (hn : 1 ≤ n) (Bs Bn : Nat) (A : Option Addr) (zs : List Nat) (c : Nat) (hcap : zs.length ≤ c) (hlen : zs.length ≤ 1000000) (hA : zs ≠ [] → ∃ b o, A = some ⟨b, o, none⟩) (w : World)
    (hb1 : Bs < w.heap.size) (hb2 : Bn < w.heap.size) (hBs : w.cell? ⟨Bs, 0, none⟩ = some (.slice A zs.length c)) (hBn : w.cell? ⟨Bn, 0, none⟩ = some (.int .i64 112)) :
    SeqStopsK Fence.wide n Try.prog 25 #[.pointer (some ⟨Bs, 0, none⟩), .pointer (some ⟨Bn, 0, none⟩)] (fun k : Nat => #[chunkV A zs k]) (Boxes2 Bs Bn) (fun ys => ys = List.range (chunks zs)) (fun pre => pre <+: List.range (chunks zs)) (chunks zs) w :=
  fun l J Jx W hW hJ _ hY h0 =>
    chunk1_in n hn l Bs Bn A zs c hcap hlen hA J Jx _ hJ hY W ((hW.cell (p := ⟨Bs, 0, none⟩) hb1).trans hBs) ((hW.cell (p := ⟨Bn, 0, none⟩) hb2).trans hBn) h0

theorem own_notcells {w : World} {b : Nat} {e : TypeId} {s : Nat} {v : Value} {n : Nat} {xs : List Value} (h : w.ownsRow b e s v n xs) {row : Option Nat} (hr : ∀ r, row = some r → ∃ o : Obj, w.heap[r]? = some o ∧ o.isCells = false) : v.ownBlock = none ∨ v.ownBlock ≠ row := by
  rcases h.2 with ⟨rfl, _⟩ | ⟨g, cap, cur, rfl, _, hgb, _⟩
  · exact .inl rfl
  · right
    intro e
    obtain ⟨o, ho, hc⟩ := hr g (by simpa [Value.ownBlock] using e.symm)
    rw [hgb] at ho
    cases ho
    cases hc
end Go.Proofs.Ytkmfacmigonbcaa
