/- slices.Chunk over bytes, by 127: the contract of its iterator, for every loop body that leaves its two boxes alone. Conditions: the slice's length ≤ 1000000. -/
import Derived.Test.YtkganajbilnanaaWBase
import Derived.RangeFuncNested
import Derived.RangeFuncBound
import Derived.RangeFuncCalls
import Derived.RangeFuncLeaves
import Derived.RangeFuncBox
import Derived.Shelf.Abstract
import Derived.Shelf.RegionOpen
import Derived.WalkKit
import Derived.OwnWalkIn
import Derived.TacticsInMore
import Derived.LoopNIn
import Derived.LoopIn
import Derived.Maps.AppendAt
import Derived.Sort.BigQuietIn
import Derived.Sort.QuietIn
namespace Go.Proofs.Ytkganajbilnanaa
open Go.RowKit Go.Shelf
attribute [local go_sem] Oper.semAt_some
set_option linter.unusedVariables false
set_option linter.unusedSimpArgs false

/-- The k-th 127 bytes of l. -/
def chunkOf (l : List Nat) (k : Nat) : List Nat := (l.drop (127 * k)).take 127
/-- .. as the value that the iterator hands on. -/
def chunkV (A : Option Addr) (l : List Nat) (k : Nat) : Value := .slice (shift A (127 * k)) (chunkOf l k).length (chunkOf l k).length
/-- how many there are -/
def chunks (l : List Nat) : Nat := (l.length + 126) / 127
theorem chunkOf_length (l : List Nat) (k : Nat) : (chunkOf l k).length = min 127 (l.length - 127 * k) := by simp [chunkOf]

/-- Two boxes lie as they lay. -/
def Boxes2 (a b : Nat) (A B : World) : Prop := B.heap[a]? = A.heap[a]? ∧ B.heap[b]? = A.heap[b]?
theorem Boxes2.cell1 {a b : Nat} {A B : World} (h : Boxes2 a b A B) : B.cell? ⟨a, 0, none⟩ = A.cell? ⟨a, 0, none⟩ := World.cell?_of_block h.1
theorem Boxes2.cell2 {a b : Nat} {A B : World} (h : Boxes2 a b A B) : B.cell? ⟨b, 0, none⟩ = A.cell? ⟨b, 0, none⟩ := World.cell?_of_block h.2

set_option maxRecDepth 100000 in
set_option maxHeartbeats 2000000 in
theorem chunk1_in (n : Nat) (hn : 1 ≤ n) (l Bs Bn : Nat) (A : Option Addr) (zs : List Nat) (c : Nat) (hcap : zs.length ≤ c) (hlen : zs.length ≤ 1000000) (hA : zs ≠ [] → ∃ b o, A = some ⟨b, o, none⟩) (J Jx : List Nat → World → Prop) (Bj : Nat) (hJ : AbidesFrom Bj J)
    (hY : ∀ pre x W, J pre W → pre.length < chunks zs → YieldAt Fence.wide (n - 1) Try.prog l #[chunkV A zs x] W fun e W' =>
      (e = .returned (.bool true) ∧ J (pre ++ [x]) W' ∧ Boxes2 Bs Bn W W') ∨ (e = .returned (.bool false) ∧ Jx (pre ++ [x]) W'))
    (W : World) (hBs : W.cell? ⟨Bs, 0, none⟩ = some (.slice A zs.length c)) (hBn : W.cell? ⟨Bn, 0, none⟩ = some (.int .i64 127)) (h0 : J [] W) :
    CallsIn Fence.wide n Try.prog 82 #[.func (.yield l) #[] #[], .pointer (some ⟨Bs, 0, none⟩), .pointer (some ⟨Bn, 0, none⟩)] W fun e W' => (∃ v, e = .returned v) ∧
      ((∃ ys, ys = List.range (chunks zs) ∧ J ys W') ∨ (∃ pre, pre <+: List.range (chunks zs) ∧ Jx pre W')) := by
  refine callsIn_of_wp Try.func82 rfl trivial ?_ rfl
  simp only [Try.ntmps82, List.size_toArray, List.length_cons, List.length_nil, Nat.reduceAdd, Nat.reduceSub, Array.replicate_succ, Array.replicate_zero, List.push_toArray, List.append_toArray, List.nil_append, List.cons_append]
  gi_wp2
  gi_loopw [4] (fun i wr => ∃ k : Nat, k ≤ chunks zs ∧ i = .int .i64 ((127 * k : Nat) : Int) ∧ J (List.range k) wr ∧ wr.cell? ⟨Bs, 0, none⟩ = some (.slice A zs.length c) ∧ wr.cell? ⟨Bn, 0, none⟩ = some (.int .i64 127))
    (fun i _ => 2000000 - (intOf i).toNat)
  case atStart => exact ⟨0, Nat.zero_le _, rfl, h0, hBs, hBn⟩
  case round =>
    obtain ⟨k, hk, rfl, hJs, hc1, hc2⟩ := hrel
    have hch : chunks zs = (zs.length + 126) / 127 := rfl
    have hkk : (127 * k < zs.length) = (k < chunks zs) := by rw [hch]; simp only [eq_iff_iff]; omega
    obtain ⟨i, hi⟩ : ∃ i, 127 * k = i := ⟨_, rfl⟩
    rw [hi] at hkk ⊢
    by_cases hlt : k < chunks zs
    · have hil : i < zs.length := by rw [hkk]; exact hlt
      obtain ⟨b, o, rfl⟩ := hA (by intro e; rw [e] at hil; simp at hil)
      have ht : decide ((i : Int) < (zs.length : Int)) = true := by rw [decide_eq_true_iff]; omega
      obtain ⟨q, hq⟩ : ∃ q, (chunkOf zs k).length = q := ⟨_, rfl⟩
      have hq' : q = min 127 (zs.length - i) := by rw [← hq, chunkOf_length, hi]
      have hq2 : i + q ≤ zs.length := by omega
      have hq3 : i + q ≤ c := by omega
      have hm1 : (if ((zs.length - i : Nat) : Int) < 127 then ((zs.length - i : Nat) : Int) else 127) = (q : Int) := by split <;> omega
      have hm2 : (if (127 : Int) < ((zs.length - i : Nat) : Int) then (127 : Int) else ((zs.length - i : Nat) : Int)) = (q : Int) := by split <;> omega
      have hm3 : min 127 (zs.length - i) = q := hq'.symm
      replace hq' := Lib.hid hq'
      gi_wp2
      gi_quiet (skip)
      have hg : wr.grownBy (wr.drewN nq) none := ⟨rfl, rfl, rfl, Nat.le_refl _, fun _ _ _ => rfl⟩
      obtain ⟨fn, tmps, assign, body, hy, hR⟩ := hY _ k (wr.drewN nq) (hJ _ _ _ none hJs hg (by simp)) (by simpa using hlt)
      have hc3 : (wr.drewN nq).cell? ⟨Bs, 0, none⟩ = some (.slice (some ⟨b, o, none⟩) zs.length c) := hc1
      have hc4 : (wr.drewN nq).cell? ⟨Bn, 0, none⟩ = some (.int .i64 127) := hc2
      generalize hwq : World.drewN _ _ = w2 at hc3 hc4 hy hR ⊢
      simp only [chunkV, shift, hq, hi, Option.map] at hy
      clear hg hwq hc1 hc2 hBs hBn hJs h0
      gi_wp2
      refine hR.mono ?_
      clear hR hy
      rintro e W3 (⟨rfl, hJ3, hk3⟩ | ⟨rfl, hJx3⟩)
      · have hc5 := hk3.cell1.trans hc3
        have hc6 := hk3.cell2.trans hc4
        clear hc3 hc4
        have e1 : ((i : Int) + 127) = ((127 * (k + 1) : Nat) : Int) := by omega
        gi_wp2
        go_roundw
        case rel => exact ⟨k + 1, by omega, by first | rfl | (simp; omega) | (congr 1; omega), by rw [List.range_succ]; exact hJ3, hc5, hc6⟩
        case measure => simp [intOf]; omega
      · gi_wp2
        refine bodyPost_ret (results_none rfl _ _ _) rfl ?_
        refine ⟨⟨_, rfl⟩, .inr ⟨_, ?_, hJx3⟩⟩
        rw [← List.range_succ]
        obtain ⟨d, hd⟩ : ∃ d, chunks zs = (k + 1) + d := ⟨_, (Nat.add_sub_cancel' hlt).symm⟩
        rw [hd, List.range_add]
        exact List.prefix_append _ _
    · have hil : ¬ i < zs.length := by rw [hkk]; exact hlt
      have ht : decide ((i : Int) < (zs.length : Int)) = false := by rw [decide_eq_false_iff_not]; omega
      gi_wp2
      go_end0
      have hk' : k = chunks zs := by omega
      subst hk'
      exact ⟨⟨_, rfl⟩, .inl ⟨_, rfl, hJs⟩⟩
theorem Boxes2.t {a b : Nat} {A B C : World} (h : Boxes2 a b A B) (k : Boxes2 a b B C) : Boxes2 a b A C := ⟨k.1.trans h.1, k.2.trans h.2⟩
theorem Boxes2.b {a b : Nat} {w : World} (ha : a < w.heap.size) (hb : b < w.heap.size) (W : World) (l : Nat) (o o' : Obj) (hl : w.heap.size ≤ l) (h : W.heap[l]? = some o) (_ : o.isCells = false) (_ : o.isWalk = false) : Boxes2 a b W (W.putObj l o') :=
  ⟨World.putObj_heap_other (by omega), World.putObj_heap_other (by omega)⟩

set_option maxRecDepth 100000 in
set_option maxHeartbeats 1000000 in
theorem chunk_in (n : Nat) (A : Option Addr) (len c : Nat) (w : World) :
    CallsIn Fence.wide n Try.prog 65 #[.slice A len c, .int .i64 127] w fun e w' => e = .returned (.func (.func 82) #[] #[.pointer (some ⟨w.heap.size, 0, none⟩), .pointer (some ⟨w.heap.size + 1, 0, none⟩)]) ∧
      w' = (w.alloc (.cells #[.slice A len c] 26)).alloc (.cells #[.int .i64 127] 3) := by
  refine callsIn_of_wp Try.func65 rfl trivial ?_ rfl
  simp only [Try.ntmps65, List.size_toArray, List.length_cons, List.length_nil, Nat.reduceAdd, Nat.reduceSub, Array.replicate_succ, Array.replicate_zero, List.push_toArray, List.append_toArray, List.nil_append, List.cons_append]
  gi_wp2
  go_ret
  exact ⟨rfl, rfl⟩

theorem chunk_stops (n : Nat) (hn : 1 ≤ n) (Bs Bn : Nat) (A : Option Addr) (zs : List Nat) (c : Nat) (hcap : zs.length ≤ c) (hlen : zs.length ≤ 1000000) (hA : zs ≠ [] → ∃ b o, A = some ⟨b, o, none⟩) (w : World)
    (hb1 : Bs < w.heap.size) (hb2 : Bn < w.heap.size) (hBs : w.cell? ⟨Bs, 0, none⟩ = some (.slice A zs.length c)) (hBn : w.cell? ⟨Bn, 0, none⟩ = some (.int .i64 127)) :
    SeqStopsK Fence.wide n Try.prog 82 #[.pointer (some ⟨Bs, 0, none⟩), .pointer (some ⟨Bn, 0, none⟩)] (fun k : Nat => #[chunkV A zs k]) (Boxes2 Bs Bn) (fun ys => ys = List.range (chunks zs)) (fun pre => pre <+: List.range (chunks zs)) (chunks zs) w :=
  fun l J Jx W hW hJ _ hY h0 =>
    chunk1_in n hn l Bs Bn A zs c hcap hlen hA J Jx _ hJ hY W ((hW.cell (p := ⟨Bs, 0, none⟩) hb1).trans hBs) ((hW.cell (p := ⟨Bn, 0, none⟩) hb2).trans hBn) h0

theorem own_notcells {w : World} {b : Nat} {e : TypeId} {s : Nat} {v : Value} {n : Nat} {xs : List Value} (h : w.ownsRow b e s v n xs) {row : Option Nat} (hr : ∀ r, row = some r → ∃ o : Obj, w.heap[r]? = some o ∧ o.isCells = false) : v.ownBlock = none ∨ v.ownBlock ≠ row := by
  rcases h.2 with ⟨rfl, _⟩ | ⟨g, cap, cur, rfl, _, hgb, _⟩
  · exact .inl rfl
  · right
    intro e
    obtain ⟨o, ho, hc⟩ := hr g (by simpa [Value.ownBlock] using e.symm)
    rw [hgb] at ho
    cases ho
    cases hc
end Go.Proofs.Ytkganajbilnanaa


/- The builtin copy into a row of the call's own, inside a fence. Conditions: none; no program in sight. -/
namespace Go.Proofs.Ytkganajbilnanaa
open Go.RowKit Go.Shelf
attribute [local go_sem] Oper.semAt_some
set_option linter.unusedVariables false
set_option linter.unusedSimpArgs false

/-- 'copy(d, s)' into a row of the call's own: what is there then. -/
theorem wpListIn_copy_row {F : Fence} {n : Nat} {P : Program} {w : World} {ops : Array Oper} {rest : List Oper} {o : Oper} {a : Act} {Q : Exit → Act → World → Prop} (hgd : o.guard = none) (d s : Operand) (dT sT : TypeId)
    (ho : o.op = .call { callee := .builtin .copy, args := #[d, s], argTypes := #[dT, sT] }) (elem : TypeId) (hu : P.underlying dT = some (.slice elem)) (hsz : (P.info? elem).map (·.size) = some 1)
    (base g m cap : Nat) (xs : List Value) (hd : a.eval d = .slice (some ⟨g, 0, none⟩) m cap) (hown : w.ownsRow base elem 1 (.slice (some ⟨g, 0, none⟩) m cap) m xs)
    (B : Nat) (A : Option Addr) (sl sc : Nat) (news : List Value) (hs : a.eval s = .slice A sl sc) (hl : news.length = sl) (hat : At w B A news) (hle : sl ≤ m) (h1 : ∀ v ∈ news, v.oneCell' = true)
    (h : ∀ w', w'.ownsRow base elem 1 (.slice (some ⟨g, 0, none⟩) m cap) m (news ++ xs.drop sl) → w.grownBy w' (some g) → wpListIn F n P ops Q rest (a.put o.dst (goInt sl)) w') :
    wpListIn F n P ops Q (o :: rest) a w := by
  subst hl
  have hxs : xs.length = m := by have := hown.1; omega
  have key : ∃ w', (Builtin.copy_ #[dT, sT] o.type #[.slice (some ⟨g, 0, none⟩) m cap, .slice A news.length sc]).run P w = .ok (goInt news.length) w' ∧ w'.ownsRow base elem 1 (.slice (some ⟨g, 0, none⟩) m cap) m (news ++ xs.drop news.length) ∧ w.grownBy w' (some g) := by
    cases hn : news with
    | nil =>
      refine ⟨w, ?_, by simpa using hown, World.grownBy.refl w _⟩
      exact run_copy_none (P := P) w dT sT o.type elem _ A m cap 0 sc hu hsz (by simp)
    | cons u us =>
      rw [← hn]
      obtain ⟨b, of, rfl, _, _⟩ := hat 0 (by rw [hn]; simp)
      rcases hown.2 with ⟨h', _⟩ | ⟨g', cap', cur, h', hb, hg, hnc, hcm, hcs, htake⟩
      · simp at h'
      · simp only [Value.slice.injEq, Option.some.injEq, Addr.mk.injEq, and_true, true_and] at h'
        obtain ⟨rfl, rfl⟩ := h'
        rw [Nat.mul_one] at hcs htake
        have hsrc : ∀ j v, news[j]? = some v → w.cell? ((⟨b, of, none⟩ : Addr).add j) = some v := fun j v hj => by
          obtain ⟨hj1, hj2⟩ := List.getElem?_eq_some_iff.1 hj
          obtain ⟨b', o', e', _, hc⟩ := hat j hj1
          injection e' with e'
          injection e' with e1 e2
          subst e1
          subst e2
          have : (⟨b, of, none⟩ : Addr).add j = ⟨b, of + j, none⟩ := by
            unfold Addr.add
            split
            · subst_vars; rfl
            · rfl
          rw [this, hc, hj2]
        have hrun := run_copy_row (P := P) w dT sT o.type elem g 0 m cap ⟨b, of, none⟩ news.length sc cur elem news hu hsz hg (Nat.min_eq_left hle).symm hsrc (by omega) h1
        refine ⟨_, hrun, ?_, ?_⟩
        · have hX : (List.take 0 cur.toList ++ news ++ List.drop (0 + news.length) cur.toList).length = cap := by simp; omega
          refine ⟨by simp; omega, .inr ⟨g, cap, (List.take 0 cur.toList ++ news ++ List.drop (0 + news.length) cur.toList).toArray, rfl, hb, setRow_heap _ _ _ _ _ _ hg, hnc, hcm, by rw [Nat.mul_one, List.size_toArray]; exact hX, ?_⟩⟩
          rw [Nat.mul_one, ← htake]
          simp only [List.take_zero, List.nil_append, Nat.zero_add, List.toList_toArray]
          rw [List.take_append, List.take_of_length_le hle, List.drop_take]
        · exact ⟨rfl, rfl, rfl, by simp [World.setRow], fun k hk hne => setRow_other w g k _ (by intro e; exact hne (by rw [e]))⟩
  obtain ⟨w', hrun, h2, h3⟩ := key
  refine wpListIn_plain hgd fun K hK' => ?_
  unfold Oper.wpIn
  refine ⟨?_, ?_⟩
  · simp [Oper.about, ho, resolve, Target.leads, Sem.run_pure]
  · rw [Oper.semAt_plain F _ _ (by rw [ho]; intro c hc'; cases hc')]
    simp [execOp, ho, resolve, invoke, builtin, hd, hs, hrun, Result.andThen]
    exact hK' _ _ (h w' h2 h3)
end Go.Proofs.Ytkganajbilnanaa
