/- slices.Chunk over bytes, by 127: the contract of its iterator, for every loop body that leaves its two boxes alone. Conditions: the slice's length ≤ 1000000. -/
import Derived.Test.YtkganajbilnanaaGreatYBase
import Derived.RangeFuncNested
import Derived.RangeFuncBound
import Derived.RangeFuncCalls
import Derived.RangeFuncLeaves
import Derived.RangeFuncBox
import Derived.Shelf.Abstract
import Derived.Shelf.RegionOpen
import Derived.WalkKit
import Derived.OwnWalkIn
import Derived.TacticsInMore
import Derived.LoopNIn
import Derived.LoopIn
import Derived.Maps.AppendAt
import Derived.Sort.BigQuietIn
import Derived.Sort.QuietIn
import Derived.WalkArith
set_option linter.unusedVariables false
set_option linter.unusedSimpArgs false
namespace Go.Proofs.YtkganajbilnanaaGreat
open Go.RowKit Go.Shelf
attribute [local go_sem] Oper.semAt_some
def chunkOf (l : List Nat) (k : Nat) : List Nat := (l.drop (127 * k)).take 127
def chunkV (A : Option Addr) (l : List Nat) (k : Nat) : Value := .slice (shift A (127 * k)) (chunkOf l k).length (chunkOf l k).length
def chunks (l : List Nat) : Nat := (l.length + 126) / 127
theorem chunkOf_length (l : List Nat) (k : Nat) : (chunkOf l k).length = min 127 (l.length - 127 * k) := by simp [chunkOf]
def Boxes2 (a b : Nat) (A B : World) : Prop := B.heap[a]? = A.heap[a]? ∧ B.heap[b]? = A.heap[b]?
theorem Boxes2.cell1 {a b : Nat} {A B : World} (h : Boxes2 a b A B) : B.cell? ⟨a, 0, none⟩ = A.cell? ⟨a, 0, none⟩ := World.cell?_of_block h.1
theorem Boxes2.cell2 {a b : Nat} {A B : World} (h : Boxes2 a b A B) : B.cell? ⟨b, 0, none⟩ = A.cell? ⟨b, 0, none⟩ := World.cell?_of_block h.2
set_option maxRecDepth 100000 in
set_option maxHeartbeats 2000000 in
theorem chunk1_in (n : Nat) (hn : 1 ≤ n) (l Bs Bn : Nat) (A : Option Addr) (zs : List Nat) (c : Nat) (hcap : zs.length ≤ c) (hlen : zs.length ≤ 1000000) (hA : zs ≠ [] → ∃ b o, A = some ⟨b, o, none⟩) (J Jx : List Nat → World → Prop) (Bj : Nat) (hJ : AbidesFrom Bj J)
    (hY : ∀ pre x W, J pre W → pre.length < chunks zs → YieldAt Fence.wide (n - 1) Tryz.prog l #[chunkV A zs x] W fun e W' =>
      (e = .returned (.bool true) ∧ J (pre ++ [x]) W' ∧ Boxes2 Bs Bn W W') ∨ (e = .returned (.bool false) ∧ Jx (pre ++ [x]) W'))
    (W : World) (hBs : W.cell? ⟨Bs, 0, none⟩ = some (.slice A zs.length c)) (hBn : W.cell? ⟨Bn, 0, none⟩ = some (.int .i64 127)) (h0 : J [] W) :
    CallsIn Fence.wide n Tryz.prog 120 #[.func (.yield l) #[] #[], .pointer (some ⟨Bs, 0, none⟩), .pointer (some ⟨Bn, 0, none⟩)] W fun e W' => (∃ v, e = .returned v) ∧
      ((∃ ys, ys = List.range (chunks zs) ∧ J ys W') ∨ (∃ pre, pre <+: List.range (chunks zs) ∧ Jx pre W')) := by
  refine callsIn_of_wp Tryz.func120 rfl trivial ?_ rfl
  simp only [Tryz.ntmps120, List.size_toArray, List.length_cons, List.length_nil, Nat.reduceAdd, Nat.reduceSub, Array.replicate_succ, Array.replicate_zero, List.push_toArray, List.append_toArray, List.nil_append, List.cons_append]
  gi_wp2
  gi_loopw [4] (fun i wr => ∃ k : Nat, k ≤ chunks zs ∧ i = .int .i64 ((127 * k : Nat) : Int) ∧ J (List.range k) wr ∧ wr.cell? ⟨Bs, 0, none⟩ = some (.slice A zs.length c) ∧ wr.cell? ⟨Bn, 0, none⟩ = some (.int .i64 127))
    (fun i _ => 2000000 - (intOf i).toNat)
  case atStart => exact ⟨0, Nat.zero_le _, rfl, h0, hBs, hBn⟩
  case round =>
    obtain ⟨k, hk, rfl, hJs, hc1, hc2⟩ := hrel
    have hch : chunks zs = (zs.length + 126) / 127 := rfl
    have hkk : (127 * k < zs.length) = (k < chunks zs) := by rw [hch]; simp only [eq_iff_iff]; omega
    obtain ⟨i, hi⟩ : ∃ i, 127 * k = i := ⟨_, rfl⟩
    rw [hi] at hkk ⊢
    by_cases hlt : k < chunks zs
    · have hil : i < zs.length := by rw [hkk]; exact hlt
      obtain ⟨b, o, rfl⟩ := hA (by intro e; rw [e] at hil; simp at hil)
      have ht : decide ((i : Int) < (zs.length : Int)) = true := by rw [decide_eq_true_iff]; omega
      obtain ⟨q, hq⟩ : ∃ q, (chunkOf zs k).length = q := ⟨_, rfl⟩
      have hq' : q = min 127 (zs.length - i) := by rw [← hq, chunkOf_length, hi]
      have hq2 : i + q ≤ zs.length := by omega
      have hq3 : i + q ≤ c := by omega
      have hm1 : (if ((zs.length - i : Nat) : Int) < 127 then ((zs.length - i : Nat) : Int) else 127) = (q : Int) := by split <;> omega
      have hm2 : (if (127 : Int) < ((zs.length - i : Nat) : Int) then (127 : Int) else ((zs.length - i : Nat) : Int)) = (q : Int) := by split <;> omega
      have hm3 : min 127 (zs.length - i) = q := hq'.symm
      replace hq' := Lib.hid hq'
      gi_wp2
      gi_quiet (skip)
      have hg : wr.grownBy (wr.drewN nq) none := ⟨rfl, rfl, rfl, Nat.le_refl _, fun _ _ _ => rfl⟩
      obtain ⟨fn, tmps, assign, body, hy, hR⟩ := hY _ k (wr.drewN nq) (hJ _ _ _ none hJs hg (by simp)) (by simpa using hlt)
      have hc3 : (wr.drewN nq).cell? ⟨Bs, 0, none⟩ = some (.slice (some ⟨b, o, none⟩) zs.length c) := hc1
      have hc4 : (wr.drewN nq).cell? ⟨Bn, 0, none⟩ = some (.int .i64 127) := hc2
      generalize hwq : World.drewN _ _ = w2 at hc3 hc4 hy hR ⊢
      simp only [chunkV, shift, hq, hi, Option.map] at hy
      clear hg hwq hc1 hc2 hBs hBn hJs h0
      gi_wp2
      refine hR.mono ?_
      clear hR hy
      rintro e W3 (⟨rfl, hJ3, hk3⟩ | ⟨rfl, hJx3⟩)
      · have hc5 := hk3.cell1.trans hc3
        have hc6 := hk3.cell2.trans hc4
        clear hc3 hc4
        have e1 : ((i : Int) + 127) = ((127 * (k + 1) : Nat) : Int) := by omega
        gi_wp2
        go_roundw
        case rel => exact ⟨k + 1, by omega, by first | rfl | (simp; omega) | (congr 1; omega), by rw [List.range_succ]; exact hJ3, hc5, hc6⟩
        case measure => simp [intOf]; omega
      · gi_wp2
        refine bodyPost_ret (results_none rfl _ _ _) rfl ?_
        refine ⟨⟨_, rfl⟩, .inr ⟨_, ?_, hJx3⟩⟩
        rw [← List.range_succ]
        obtain ⟨d, hd⟩ : ∃ d, chunks zs = (k + 1) + d := ⟨_, (Nat.add_sub_cancel' hlt).symm⟩
        rw [hd, List.range_add]
        exact List.prefix_append _ _
    · have hil : ¬ i < zs.length := by rw [hkk]; exact hlt
      have ht : decide ((i : Int) < (zs.length : Int)) = false := by rw [decide_eq_false_iff_not]; omega
      gi_wp2
      go_end0
      have hk' : k = chunks zs := by omega
      subst hk'
      exact ⟨⟨_, rfl⟩, .inl ⟨_, rfl, hJs⟩⟩
theorem Boxes2.t {a b : Nat} {A B C : World} (h : Boxes2 a b A B) (k : Boxes2 a b B C) : Boxes2 a b A C := ⟨k.1.trans h.1, k.2.trans h.2⟩
theorem Boxes2.b {a b : Nat} {w : World} (ha : a < w.heap.size) (hb : b < w.heap.size) (W : World) (l : Nat) (o o' : Obj) (hl : w.heap.size ≤ l) (h : W.heap[l]? = some o) (_ : o.isCells = false) (_ : o.isWalk = false) : Boxes2 a b W (W.putObj l o') :=
  ⟨World.putObj_heap_other (by omega), World.putObj_heap_other (by omega)⟩
set_option maxRecDepth 100000 in
set_option maxHeartbeats 1000000 in
theorem chunk_in (n : Nat) (A : Option Addr) (len c : Nat) (w : World) :
    CallsIn Fence.wide n Tryz.prog 81 #[.slice A len c, .int .i64 127] w fun e w' => e = .returned (.func (.func 120) #[] #[.pointer (some ⟨w.heap.size, 0, none⟩), .pointer (some ⟨w.heap.size + 1, 0, none⟩)]) ∧
      w' = (w.alloc (.cells #[.slice A len c] 45)).alloc (.cells #[.int .i64 127] 3) := by
  refine callsIn_of_wp Tryz.func81 rfl trivial ?_ rfl
  simp only [Tryz.ntmps81, List.size_toArray, List.length_cons, List.length_nil, Nat.reduceAdd, Nat.reduceSub, Array.replicate_succ, Array.replicate_zero, List.push_toArray, List.append_toArray, List.nil_append, List.cons_append]
  gi_wp2
  go_ret
  exact ⟨rfl, rfl⟩
theorem chunk_stops (n : Nat) (hn : 1 ≤ n) (Bs Bn : Nat) (A : Option Addr) (zs : List Nat) (c : Nat) (hcap : zs.length ≤ c) (hlen : zs.length ≤ 1000000) (hA : zs ≠ [] → ∃ b o, A = some ⟨b, o, none⟩) (w : World)
    (hb1 : Bs < w.heap.size) (hb2 : Bn < w.heap.size) (hBs : w.cell? ⟨Bs, 0, none⟩ = some (.slice A zs.length c)) (hBn : w.cell? ⟨Bn, 0, none⟩ = some (.int .i64 127)) :
    SeqStopsK Fence.wide n Tryz.prog 120 #[.pointer (some ⟨Bs, 0, none⟩), .pointer (some ⟨Bn, 0, none⟩)] (fun k : Nat => #[chunkV A zs k]) (Boxes2 Bs Bn) (fun ys => ys = List.range (chunks zs)) (fun pre => pre <+: List.range (chunks zs)) (chunks zs) w :=
  fun l J Jx W hW hJ _ hY h0 =>
    chunk1_in n hn l Bs Bn A zs c hcap hlen hA J Jx _ hJ hY W ((hW.cell (p := ⟨Bs, 0, none⟩) hb1).trans hBs) ((hW.cell (p := ⟨Bn, 0, none⟩) hb2).trans hBn) h0
theorem own_notcells {w : World} {b : Nat} {e : TypeId} {s : Nat} {v : Value} {n : Nat} {xs : List Value} (h : w.ownsRow b e s v n xs) {row : Option Nat} (hr : ∀ r, row = some r → ∃ o : Obj, w.heap[r]? = some o ∧ o.isCells = false) : v.ownBlock = none ∨ v.ownBlock ≠ row := by
  rcases h.2 with ⟨rfl, _⟩ | ⟨g, cap, cur, rfl, _, hgb, _⟩
  · exact .inl rfl
  · right
    intro e
    obtain ⟨o, ho, hc⟩ := hr g (by simpa [Value.ownBlock] using e.symm)
    rw [hgb] at ho
    cases ho
    cases hc
end Go.Proofs.YtkganajbilnanaaGreat
namespace Go.Proofs.YtkganajbilnanaaGreat
open Go.RowKit Go.Shelf
attribute [local go_sem] Oper.semAt_some
theorem wpListIn_copy_row {F : Fence} {n : Nat} {P : Program} {w : World} {ops : Array Oper} {rest : List Oper} {o : Oper} {a : Act} {Q : Exit → Act → World → Prop} (hgd : o.guard = none) (d s : Operand) (dT sT : TypeId)
    (ho : o.op = .call { callee := .builtin .copy, args := #[d, s], argTypes := #[dT, sT] }) (elem : TypeId) (hu : P.underlying dT = some (.slice elem)) (hsz : (P.info? elem).map (·.size) = some 1)
    (base g m cap : Nat) (xs : List Value) (hd : a.eval d = .slice (some ⟨g, 0, none⟩) m cap) (hown : w.ownsRow base elem 1 (.slice (some ⟨g, 0, none⟩) m cap) m xs)
    (B : Nat) (A : Option Addr) (sl sc : Nat) (news : List Value) (hs : a.eval s = .slice A sl sc) (hl : news.length = sl) (hat : At w B A news) (hle : sl ≤ m) (h1 : ∀ v ∈ news, v.oneCell' = true)
    (h : ∀ w', w'.ownsRow base elem 1 (.slice (some ⟨g, 0, none⟩) m cap) m (news ++ xs.drop sl) → w.grownBy w' (some g) → wpListIn F n P ops Q rest (a.put o.dst (goInt sl)) w') :
    wpListIn F n P ops Q (o :: rest) a w := by
  subst hl
  have hxs : xs.length = m := by have := hown.1; omega
  have key : ∃ w', (Builtin.copy_ #[dT, sT] o.type #[.slice (some ⟨g, 0, none⟩) m cap, .slice A news.length sc]).run P w = .ok (goInt news.length) w' ∧ w'.ownsRow base elem 1 (.slice (some ⟨g, 0, none⟩) m cap) m (news ++ xs.drop news.length) ∧ w.grownBy w' (some g) := by
    cases hn : news with
    | nil =>
      refine ⟨w, ?_, by simpa using hown, World.grownBy.refl w _⟩
      exact run_copy_none (P := P) w dT sT o.type elem _ A m cap 0 sc hu hsz (by simp)
    | cons u us =>
      rw [← hn]
      obtain ⟨b, of, rfl, _, _⟩ := hat 0 (by rw [hn]; simp)
      rcases hown.2 with ⟨h', _⟩ | ⟨g', cap', cur, h', hb, hg, hnc, hcm, hcs, htake⟩
      · simp at h'
      · simp only [Value.slice.injEq, Option.some.injEq, Addr.mk.injEq, and_true, true_and] at h'
        obtain ⟨rfl, rfl⟩ := h'
        rw [Nat.mul_one] at hcs htake
        have hsrc : ∀ j v, news[j]? = some v → w.cell? ((⟨b, of, none⟩ : Addr).add j) = some v := fun j v hj => by
          obtain ⟨hj1, hj2⟩ := List.getElem?_eq_some_iff.1 hj
          obtain ⟨b', o', e', _, hc⟩ := hat j hj1
          injection e' with e'
          injection e' with e1 e2
          subst e1
          subst e2
          have : (⟨b, of, none⟩ : Addr).add j = ⟨b, of + j, none⟩ := by
            unfold Addr.add
            split
            · subst_vars; rfl
            · rfl
          rw [this, hc, hj2]
        have hrun := run_copy_row (P := P) w dT sT o.type elem g 0 m cap ⟨b, of, none⟩ news.length sc cur elem news hu hsz hg (Nat.min_eq_left hle).symm hsrc (by omega) h1
        refine ⟨_, hrun, ?_, ?_⟩
        · have hX : (List.take 0 cur.toList ++ news ++ List.drop (0 + news.length) cur.toList).length = cap := by simp; omega
          refine ⟨by simp; omega, .inr ⟨g, cap, (List.take 0 cur.toList ++ news ++ List.drop (0 + news.length) cur.toList).toArray, rfl, hb, setRow_heap _ _ _ _ _ _ hg, hnc, hcm, by rw [Nat.mul_one, List.size_toArray]; exact hX, ?_⟩⟩
          rw [Nat.mul_one, ← htake]
          simp only [List.take_zero, List.nil_append, Nat.zero_add, List.toList_toArray]
          rw [List.take_append, List.take_of_length_le hle, List.drop_take]
        · exact ⟨rfl, rfl, rfl, by simp [World.setRow], fun k hk hne => setRow_other w g k _ (by intro e; exact hne (by rw [e]))⟩
  obtain ⟨w', hrun, h2, h3⟩ := key
  refine wpListIn_plain hgd fun K hK' => ?_
  unfold Oper.wpIn
  refine ⟨?_, ?_⟩
  · simp [Oper.about, ho, resolve, Target.leads, Sem.run_pure]
  · rw [Oper.semAt_plain F _ _ (by rw [ho]; intro c hc'; cases hc')]
    simp [execOp, ho, resolve, invoke, builtin, hd, hs, hrun, Result.andThen]
    exact hK' _ _ (h w' h2 h3)
end Go.Proofs.YtkganajbilnanaaGreat
namespace Go.Proofs.YtkganajbilnanaaGreat
open Go.RowKit Go.Shelf
attribute [local go_sem] Oper.semAt_some
theorem wpListIn_make_row {F : Fence} {n : Nat} {P : Program} (w : World) {ops : Array Oper} {rest : List Oper} {o : Oper} {a : Act} {Q : Exit → Act → World → Prop}
    (hg : o.guard = none) (l c : Operand) (t : TypeId) (hop : o.op = Op.makeSlice t l c)
    (base : Nat) (e : TypeId) (i : TypeInfo) (z : Value) (h1 : P.underlying t = some (.slice e)) (h2 : P.info? e = some i) (h3 : i.zero = some z) (h4 : i.size = 1) (hzz : z.cells = #[z])
    (kl kc : IntKind) (L C : Int) (m : Nat) (hl : a.eval l = .int kl L) (hc : a.eval c = .int kc C) (hL : L = (m : Int)) (hC : C = (m : Int)) (b2 : i.bytes * m ≤ 281474976710656) (b3 : m ≤ maxLen) (b4 : base ≤ w.heap.size)
    (hK : ∀ w', w'.ownsRow base e 1 (.slice (some ⟨w.heap.size, 0, none⟩) m m) m (List.replicate m z) → w.grownBy w' none → wpListIn F n P ops Q rest (a.put o.dst (.slice (some ⟨w.heap.size, 0, none⟩) m m)) w') :
    wpListIn F n P ops Q (o :: rest) a w := by
  refine wpListIn_plain hg fun K hK' => ?_
  obtain ⟨w', hrun, r1, r2⟩ := run_make_full (P := P) w base t e i z 1 h1 h2 h3 h4 kl kc m b2 b3 b4
  rw [Nat.mul_one, hzz, toList_madeCells_one] at r1
  subst hL
  subst hC
  unfold Oper.wpIn
  refine ⟨?_, ?_⟩
  · simp [Oper.about, hop]
  · rw [Oper.semAt_plain F _ _ (by rw [hop]; intro c hc'; cases hc')]
    simp [execOp, hop, hl, hc, hrun, Result.andThen]
    exact hK' _ _ (hK w' r1 r2)
def sectorOf (l : List Nat) : List Nat := l ++ List.replicate (127 - l.length) 0 ++ [l.length]
theorem sectorOf_length {l : List Nat} (h : l.length ≤ 127) : (sectorOf l).length = 128 := by simp [sectorOf]; omega
theorem sectorOf_small {l : List Nat} (h : l.length ≤ 127) (hs : Small l) : Small (sectorOf l) := fun x hx => by
  simp only [sectorOf, List.mem_append, List.mem_singleton, List.mem_replicate] at hx
  rcases hx with (hx | ⟨_, rfl⟩) | rfl
  · exact hs x hx
  · omega
  · omega
def layOf (l : List Nat) : List (List Nat) := (List.range (chunks l)).map fun k => sectorOf (chunkOf l k)
theorem sector_set {l : List Nat} (h : l.length ≤ 127) : (l.map byteV ++ (List.replicate 128 (Value.int .u8 0)).drop l.length).set 127 (byteV l.length) = (sectorOf l).map byteV := by
  rw [List.drop_replicate, show 128 - l.length = (127 - l.length) + 1 by omega, List.replicate_succ', ← List.append_assoc]
  rw [List.set_append_right _ _ (by simp; omega)]
  simp only [List.length_append, List.length_map, List.length_replicate, show 127 - (l.length + (127 - l.length)) = 0 by omega, List.set_cons_zero, sectorOf, List.map_append, List.map_replicate, List.map_cons, List.map_nil]
  rfl
theorem slice_info : (Tryz.prog.info? 45).map (fun i => (i.zero, i.size, i.bytes)) = some (some (.slice none 0 0), 1, 24) := by kernel_rfl
set_option maxRecDepth 100000 in
set_option maxHeartbeats 2000000 in
theorem Lay_in (n : Nat) (hn : 3 ≤ n) (A : Option Addr) (zs : List Nat) (c : Nat) (B0 : Nat) (hcap : zs.length ≤ c) (hlen : zs.length ≤ 100000) (w : World) (hB0 : B0 ≤ w.heap.size) (hat : Bytes w B0 A zs) :
    CallsIn Fence.wide n Tryz.prog 30 #[.slice A zs.length c] w fun e W' => ∃ v L, e = .returned v ∧ W'.ownsRow w.heap.size 45 1 v (chunks zs) L ∧ Rows W' w.heap.size L (layOf zs) ∧ Below w.heap.size w W' := by
  have h1 : 1 ≤ n := by omega
  obtain ⟨i0, hi, hz0, hz1, hz2⟩ := info_parts slice_info
  obtain ⟨i1, hi1, hy0, hy1, hy2⟩ := info_parts u8_info
  have hAA : zs ≠ [] → ∃ b o, A = some ⟨b, o, none⟩ := fun hne => by
    obtain ⟨b, o, e, _⟩ := hat.at_ (k := 0) (List.length_pos_iff.2 hne)
    exact ⟨b, o, e⟩
  refine callsIn_of_wp_marks Tryz.func30 rfl trivial ?_ rfl
  simp only [Tryz.ntmps30, List.size_toArray, List.length_cons, List.length_nil, Nat.reduceAdd, Nat.reduceSub, Array.replicate_succ, Array.replicate_zero, List.push_toArray, List.append_toArray, List.nil_append, List.cons_append]
  gi_wp2_with (refine ⟨trivial, ?_⟩; gi_at_call 81; refine (chunk_in (n - 1) _ _ _ _).mono ?_; rintro e w' ⟨rfl, rfl⟩)
  have bO := Boxed.new w 22 (.slice none 0 0)
  have bS := (Boxed.new (w.alloc (.cells #[.slice none 0 0] 22)) 45 (.slice A zs.length c)).alloc (.cells #[.int .i64 127] 3)
  have bN := Boxed.new ((w.alloc (.cells #[.slice none 0 0] 22)).alloc (.cells #[.slice A zs.length c] 45)) 3 (.int .i64 127)
  have hB : Below w.heap.size w (((w.alloc (.cells #[.slice none 0 0] 22)).alloc (.cells #[.slice A zs.length c] 45)).alloc (.cells #[.int .i64 127] 3)) := (((Below.refl _ w).alloc (Nat.le_refl _) _).alloc (by simp) _).alloc (by simp; omega) _
  obtain ⟨W0, hW0⟩ : ∃ W0, (((w.alloc (.cells #[.slice none 0 0] 22)).alloc (.cells #[.slice A zs.length c] 45)).alloc (.cells #[.int .i64 127] 3)) = W0 := ⟨_, rfl⟩
  have hsz : W0.heap.size = w.heap.size + 3 := by rw [← hW0]; simp
  have bO := ((Boxed.new w 22 (.slice none 0 0)).alloc (.cells #[.slice A zs.length c] 45)).alloc (.cells #[.int .i64 127] 3)
  simp only [World.size_alloc] at bS bN
  rw [hW0] at bO bS bN hB
  rw [show w.heap.size + 1 + 1 = w.heap.size + 2 from rfl] at bN
  rw [hW0]
  try simp only [World.size_alloc]
  try rw [show w.heap.size + 1 + 1 = w.heap.size + 2 from rfl]
  refine wpIn_rangeFunc_ownG rfl h1 (gf := 120) (lb := #[.pointer (some ⟨w.heap.size + 1, 0, none⟩), .pointer (some ⟨w.heap.size + 2, 0, none⟩)]) rfl trivial (enters_of Tryz.func120 (by kernel_rfl) rfl)
    (chunk_stops (n - 1) (by omega) (w.heap.size + 1) (w.heap.size + 2) A zs c hcap (by omega) hAA W0 (by omega) (by omega) bS.cell bN.cell) Boxes2.t (Boxes2.b (by omega) (by omega)) (Below.refl _ _) (fun _ => rfl)
    (fun pre W => (∃ L, W0.heap.size ≤ W.heap.size ∧ Rows W W0.heap.size L (pre.map fun k => sectorOf (chunkOf zs k)) ∧ ∃ v, Boxed W w.heap.size 22 v ∧ W.ownsRow W0.heap.size 45 1 v pre.length L) ∧ Below w.heap.size w W)
    (fun _ _ _ => False) ?own (fun _ _ _ _ _ hs _ _ => hs)
    ⟨⟨[], Nat.le_refl _, Rows.nil _ _, _, bO, World.ownsRow_nil _ _ _ _⟩, hB⟩
    (fun x => { tmps := #[.slice A zs.length c, undef, .slice none 0 0, .pointer (some ⟨w.heap.size, 0, none⟩), chunkV A zs x, undef, .slice A zs.length c, .func (.func 120) #[] #[.pointer (some ⟨w.heap.size + 1, 0, none⟩), .pointer (some ⟨w.heap.size + 2, 0, none⟩)], chunkV A zs x, undef, undef, undef, undef, undef, undef, undef, undef, undef, undef, undef, undef], defers := [] }) ?assign ?body ?done ?stop
  case own =>
    refine OwnFrom.and (Own.from ?_ _) (ownFrom_below (Nat.le_refl _) (by omega))
    rintro pre X Y row ⟨L, hw0, hr, v, hv, ho⟩ hg hrow
    refine ⟨L, Nat.le_trans hw0 hg.size, hr.imp fun v l h => h.kept hg (own_notcells h hrow), v, hv.kept hg ?_, ho.kept hg (own_notcells ho hrow)⟩
    intro e
    obtain ⟨o, ho, hc⟩ := hrow _ e.symm
    rw [show X.heap[w.heap.size]? = _ from hv] at ho
    cases ho
    cases hc
  case assign =>
    intro l x W K hK
    gi_wp2
    exact hK
  case body =>
    rintro l pre x W ⟨⟨L, hw0, hr, v, hv, hrow⟩, hBW⟩ hlt
    have hc := hv.cell
    obtain ⟨q, hq⟩ : ∃ q, (chunkOf zs x).length = q := ⟨_, rfl⟩
    have hq127 : q ≤ 127 := by rw [← hq, chunkOf_length]; omega
    have hch : Bytes W B0 (shift A (127 * x)) (chunkOf zs x) := ((hat.drop (127 * x)).take 127).below (hBW.mono hB0)
    have hpl : pre.length < 1000 := by have : chunks zs = (zs.length + 126) / 127 := rfl; omega
    have hsi : (Tryz.prog.info? 5).map (·.size) = some 1 := by rw [hi1]; simp [hy1]
    have hqm : (q : Int) % 256 = (q : Int) := by omega
    simp only [chunkV, hq]
    gi_wp2_with (first
      | (gi_at_make; refine wpListIn_make_row _ rfl _ _ 45 rfl W0.heap.size 5 i1 (.int .u8 0) Tryz.underlying45 hi1 hy0 hy1 rfl .i64 .i64 _ _ 128 rfl rfl rfl rfl (by rw [hy2]; decide) (by decide) hw0 ?_; intro w1 hown1 hg1)
      | (have hz := hown1; refine wpListIn_copy_row rfl _ _ 45 45 rfl 5 Tryz.underlying45 hsi W0.heap.size W.heap.size 128 128 _ rfl hown1 B0 (shift A (127 * x)) q q ((chunkOf zs x).map byteV) rfl (by simp [hq]) (hch.below ((Below.refl _ W).grown hg1 (by have := hBW.size; omega) (by simp))).1 (by omega) (bytes_oneCell _) ?_; clear hz; intro w2 hown2 hg2; have hG2 : W.grownBy w2 none := ⟨hg2.os.trans hg1.os, hg2.tape.trans hg1.tape, hg2.output.trans hg1.output, Nat.le_trans hg1.size hg2.size, fun k hk _ => (hg2.block k (Nat.lt_of_lt_of_le hk hg1.size) (by simp; omega)).trans (hg1.block k hk (by simp))⟩; clear hown1 hg1 hg2
         obtain ⟨v0, hv0⟩ : ∃ v0, w2.cell? ⟨W.heap.size, 127, none⟩ = some v0 := ⟨_, (hown2.cellAt 127 (by omega)).trans (List.getElem?_eq_getElem (by rw [hown2.1]; omega))⟩
         have hf2 := hown2.frozenAt 127
         have hst := hown2.stored 127 (Value.int .u8 (q : Int))
         have hG3 : W.grownBy (w2.setCell ⟨W.heap.size, 127, none⟩ (Value.int .u8 (q : Int))) none := ⟨hst.2.os.trans hG2.os, hst.2.tape.trans hG2.tape, hst.2.output.trans hG2.output, Nat.le_trans hG2.size hst.2.size, fun k hk _ => (hst.2.block k (Nat.lt_of_lt_of_le hk hG2.size) (by simp; omega)).trans (hG2.block k hk (by simp))⟩
         have hv3 := hv.kept hG3 (by simp)
         have hc3 := hv3.cell
         have hrow3 := hrow.kept hG3 (by cases h : v.ownBlock <;> simp)
         have hs3 := Lib.hid hst.1
         clear hst hown2)
      | (gi_at_builtin
         refine wpListIn_append_own _ rfl _ _ 22 rfl W0.heap.size 45 i0 (.slice none 0 0) 1 24 Tryz.underlying22 hi hz0 hz1 hz2 rfl (by decide) _ _ _ rfl (hrow3.alloc _) ⟨w2.heap.size, 0, none⟩ 1 1 [.slice (some ⟨W.heap.size, 0, none⟩) 128 128] rfl rfl (fun j u h => by simpa using cell_one_new (w2.setCell ⟨W.heap.size, 127, none⟩ (Value.int .u8 (q : Int))) _ _ j u h) (by simp [Value.oneCell']) (by unfold maxLen; omega) (by omega) (by have := hG3.size; rw [World.size_alloc]; omega) ?_
         intro v' w4 hown4 hgrow _
         obtain ⟨g', cap', rfl⟩ := ownsRow_succ hown4
         obtain ⟨hv1, hv2, hr2, hk2, hb2⟩ := hv3.appended (by decide) (own_base (by omega) hrow3) (Nat.le_trans hBW.size hG3.size) (Nat.le_refl _) (own_base (by omega) hown4) hgrow
         have hc1 := hv1.cell
         have hf1 := hv1.frozen
         have hg4 := Lib.hid hgrow
         have ho4 := Lib.hid hown4))
    replace hg4 := hg4.out
    replace ho4 := ho4.out
    replace hs3 := hs3.out
    have hgs := grownBy_setCell' w4 w.heap.size (.slice (some ⟨g', 0, none⟩) (pre.length + 1) cap')
    have hlt5 := hrow3.lt
    have hag : (w2.setCell ⟨W.heap.size, 127, none⟩ (.int .u8 (q : Int))).grownBy ((w2.setCell ⟨W.heap.size, 127, none⟩ (.int .u8 (q : Int))).alloc (.cells #[.slice (some ⟨W.heap.size, 0, none⟩) 128 128] 45)) none := World.grownBy_alloc _ _ _
    have k5 : ∀ (u : Value) (m : List Nat), (w2.setCell ⟨W.heap.size, 127, none⟩ (.int .u8 (q : Int))).ownsRow W0.heap.size 5 1 u m.length (m.map byteV) → (w4.setCell ⟨w.heap.size, 0, none⟩ (.slice (some ⟨g', 0, none⟩) (pre.length + 1) cap')).ownsRow W0.heap.size 5 1 u m.length (m.map byteV) := fun u m hu =>
      have h1 := hu.kept hag (by cases h : u.ownBlock <;> simp)
      have h2 := h1.kept hg4 (own_apart (by decide) hu hrow3)
      h2.kept hgs (own_block (by decide) h2 hv1)
    have kb : ∀ b, b = w.heap.size + 1 ∨ b = w.heap.size + 2 → (w4.setCell ⟨w.heap.size, 0, none⟩ (.slice (some ⟨g', 0, none⟩) (pre.length + 1) cap')).heap[b]? = W.heap[b]? := fun b hb => by
      have hbW : b < W.heap.size := by omega
      have s3 := hG3.size
      have s4 := hg4.size
      rw [World.size_alloc] at s4
      rw [hgs.block b (by omega) (by simp; omega), hg4.block b (by rw [World.size_alloc]; omega) (fun e => by have := (hlt5 b e.symm).1; omega), hag.block b (by omega) (by simp), hG3.block b hbW (by simp)]
    refine ⟨((KeepsOthers.of_grownBy hG3 (by simp)).from _).trans (hk2.from _), ⟨kb _ (.inl rfl), kb _ (.inr rfl)⟩, ⟨L ++ [.slice (some ⟨W.heap.size, 0, none⟩) 128 128], ?_, ?_, _, hv2, ?_⟩, (hBW.trans ((Below.refl _ W).grown hG3 hBW.size (by simp))).trans hb2⟩
    · exact Nat.le_trans hw0 (Nat.le_trans hG3.size hk2.size)
    · rw [List.map_append, List.map_singleton]
      refine ((hr.grown hG3).imp k5).snoc ⟨⟨_, _, by rw [sectorOf_length (by omega)]⟩, k5 _ _ ?_, sectorOf_small (by omega) hch.2⟩
      rw [← sector_set (by omega), sectorOf_length (by omega), hq]
      exact hs3
    · rw [List.length_append]
      exact ho4.kept hgs (own_block (by decide) ho4 hv1)
  case done =>
    rintro D ys W hD rfl ⟨⟨L, hw0, hr, v, hv, hrow⟩, hBW⟩ hK
    have hc := hv.cell
    gi_wp2
    refine ⟨by simp, .inl ⟨_, _, rfl, run_takeDeferred hK, ?_⟩⟩
    refine ⟨_, results_tmp rfl _ _ _, v, L, rfl, ?_, hr.imp' fun v l h => own_base (by omega) (ownsRow_putObj h _ hK rfl), hBW.trans (belowK_b (w := w) (Nat.le_refl _) W D _ _ (by omega) hK rfl rfl)⟩
    have := ownsRow_putObj hrow (.deferred none) hK rfl
    rw [List.length_range] at this
    exact own_base (by omega) this
  case stop =>
    rintro D c pre W _ _ h _
    exact h.elim
theorem lay_any (A : Option Addr) (zs : List Nat) (c : Nat) (B0 : Nat) (hcap : zs.length ≤ c) (hlen : zs.length ≤ 100000) (w : World) (hB0 : B0 ≤ w.heap.size) (hat : Bytes w B0 A zs) :
    Calls Tryz.prog 30 #[.slice A zs.length c] w fun e W' => ∃ v L, e = .returned v ∧ W'.ownsRow w.heap.size 45 1 v (chunks zs) L ∧ Rows W' w.heap.size L (layOf zs) ∧ Below w.heap.size w W' :=
  (callsIn_wide (n := 3)).1 (Lay_in 3 (Nat.le_refl _) A zs c B0 hcap hlen w hB0 hat)
end Go.Proofs.YtkganajbilnanaaGreat
namespace Go.Proofs.YtkganajbilnanaaGreat
open Go.ChangeShapes Go.WideShapes Go.ChangeAt Go.RowKit
set_option maxRecDepth 20000
def last (s : List Nat) : Nat := s[127]?.getD 0
def readL : List (List Nat) → List Nat
  | [] => []
  | s :: ss => if s.length ≠ 128 then [] else if 127 < last s then [] else if last s < 127 then s.take (last s) else s.take (last s) ++ readL ss
theorem readL_length (ls : List (List Nat)) : (readL ls).length ≤ 127 * ls.length := by
  induction ls with
  | nil => simp [readL]
  | cons s ss ih =>
    simp only [readL]
    repeat' split
    all_goals simp
    all_goals omega
theorem readL_small : ∀ (ls : List (List Nat)), (∀ l ∈ ls, Small l) → Small (readL ls) := fun ls h => by
  induction ls with
  | nil => exact fun x hx => by cases hx
  | cons s ss ih =>
    simp only [readL]
    have hs : Small (s.take (last s)) := fun x hx => h s (by simp) x (List.mem_of_mem_take hx)
    repeat' split
    · exact fun x hx => by cases hx
    · exact fun x hx => by cases hx
    · exact hs
    · exact small_append hs (ih fun l hl => h l (by simp [hl]))
theorem readL_drop {ls : List (List Nat)} {k : Nat} (hk : k < ls.length) : readL (ls.drop k) = if ls[k].length ≠ 128 then [] else if 127 < last ls[k] then [] else if last ls[k] < 127 then ls[k].take (last ls[k]) else ls[k].take (last ls[k]) ++ readL (ls.drop (k + 1)) := by
  rw [List.drop_eq_getElem_cons hk]
  rfl
set_option maxHeartbeats 4000000 in
theorem stread_any (A : Option Addr) (c : Nat) (L : List Value) (ls : List (List Nat)) (B : Nat) (w : World) (h1 : At w B A L) (hr : Reads w B L ls) (hB : B ≤ w.heap.size) (hn : ls.length ≤ 1100) :
    Calls Tryz.prog 27 #[.slice A ls.length c] w (RetBytes 5 (readL ls) w) := by
  obtain ⟨i0, hi0, hz0, hz1, hz2⟩ := info_parts u8_info
  have hsm := readL_small ls (fun l hl => by
    obtain ⟨j, hj, rfl⟩ := List.mem_iff_getElem.1 hl
    obtain ⟨A1, c1, _, _, b1⟩ := hr.2 j _ (List.getElem?_eq_getElem hj)
    exact b1.2)
  have fin : ∀ (l : List Nat), readL ls = l → ∀ (A0 : Option Addr) (c0 : Nat) {w' : World}, w'.ownsRow w.heap.size 5 1 (.slice A0 l.length c0) l.length (l.map byteV) → Below w.heap.size w w' → RetBytes 5 (readL ls) w (.returned (.slice A0 l.length c0)) w' := fun l e A0 c0 w' ho hb => by
    rw [e]
    exact ⟨A0, c0, rfl, ho, hb, by rw [← e]; exact hsm⟩
  go_enter Tryz.func27, Tryz.ntmps27
  go_wp2_with fail
  go_loopw [3, 9] (fun v i wr => ∃ (k : Nat) (l : List Nat), k ≤ ls.length ∧ i = .int .i64 k ∧ readL ls = l ++ readL (ls.drop k) ∧ l.length ≤ 127 * k ∧ wr.ownsRow w.heap.size 5 1 v l.length (l.map byteV) ∧ Below w.heap.size w wr) (fun _ i _ => ls.length - (intOf i).toNat)
  case atStart => exact ⟨0, [], by omega, rfl, rfl, by simp, World.ownsRow_nil _ _ _ _, Below.refl _ _⟩
  case round =>
    obtain ⟨k, l, hk, rfl, heq, hll, hown, hb⟩ := hrel
    obtain ⟨A0, c0, rfl, -, -⟩ := own_form hown
    rcases Nat.lt_or_ge k ls.length with hlt | hge
    · have ht : decide ((k : Int) < (ls.length : Int)) = true := by rw [decide_eq_true_iff]; omega
      obtain ⟨A1, c1, e1, hc1, b1⟩ := hr.2 k _ (List.getElem?_eq_getElem hlt)
      obtain ⟨b, o, rfl, hbB, q1⟩ := h1 k (by rw [hr.1]; exact hlt)
      rw [← List.getElem?_eq_getElem, e1] at q1
      have p1 := ((hb.mono hB).cell (p := ⟨b, o + k, none⟩) hbB).trans q1
      have s1 := b1.below (hb.mono hB)
      rw [readL_drop hlt] at heq
      clear q1 e1 h1 hr b1
      generalize hss : ls[k] = s at *
      by_cases hs : s.length = 128
      · have ht2 : ((s.length : Int) != 128) = false := by rw [hs]; rfl
        obtain ⟨b2, o2, rfl, hb2, hc2, hy⟩ := s1.at_ (k := 127) (by omega)
        have hlast : last s = s[127] := by unfold last; rw [List.getElem?_eq_getElem (by omega)]; rfl
        generalize s[127] = y at *
        rw [hlast] at heq
        rw [if_neg (by simp [hs])] at heq
        have hs1 : (s.length : Int) = 128 := by omega
        by_cases hy1 : 127 < y
        · have ht3 : decide ((127 : Int) < (y : Int)) = true := by rw [decide_eq_true_iff]; omega
          rw [if_pos hy1, List.append_nil] at heq
          have HE := Lib.hid heq
          clear heq hlast s1 hsm
          go_wp2
          go_ret
          exact fin _ HE.out A0 c0 hown hb
        · have ht3 : decide ((127 : Int) < (y : Int)) = false := by rw [decide_eq_false_iff_not]; omega
          rw [if_neg hy1] at heq
          have hy2 : y ≤ c1 := by omega
          have hlen : (l ++ s.take y).length = l.length + y := by simp; omega
          have hlen2 : (s.take y).length = y := by simp; omega
          have hT := (s1.take y).1
          have HE := Lib.hid heq
          have HL := Lib.hid hlen
          clear heq hlast s1 hsm hlen
          by_cases hy3 : y < 127
          · have ht4 : decide ((y : Int) < 127) = true := by rw [decide_eq_true_iff]; omega
            go_wp2_with (at_builtin; refine wpList_append_at rfl _ _ 45 rfl w.heap.size 5 i0 _ 1 Tryz.underlying45 hi0 hz0 hz1 hz2 rfl (.slice A0 l.length c0) l.length (l.map byteV) rfl hown B (some ⟨b2, o2, none⟩) y c1 ((s.take y).map byteV) rfl (by rw [List.length_map]; exact hlen2) hT (bytes_oneCell _) (by unfold maxLen; omega) (by omega) hb.size ?_; intro A3 c3 w3 hown3 hg3 hat3)
            go_ret
            have hE := HE.out
            rw [if_pos hy3] at hE
            rw [← HL.out] at hown3
            rw [← List.map_append] at hown3
            have := fin _ hE A3 c3 hown3 (below_own hb hg3 hown (Nat.le_refl _) hb.size)
            rwa [HL.out] at this
          · have ht4 : decide ((y : Int) < 127) = false := by rw [decide_eq_false_iff_not]; omega
            go_wp2_with (at_builtin; refine wpList_append_at rfl _ _ 45 rfl w.heap.size 5 i0 _ 1 Tryz.underlying45 hi0 hz0 hz1 hz2 rfl (.slice A0 l.length c0) l.length (l.map byteV) rfl hown B (some ⟨b2, o2, none⟩) y c1 ((s.take y).map byteV) rfl (by rw [List.length_map]; exact hlen2) hT (bytes_oneCell _) (by unfold maxLen; omega) (by omega) hb.size ?_; intro A3 c3 w3 hown3 hg3 hat3)
            go_roundw
            case rel =>
              have hE := HE.out
              rw [if_neg hy3, ← List.append_assoc] at hE
              refine ⟨k + 1, l ++ s.take y, by omega, by go_num, hE, by rw [HL.out]; omega, ?_, below_own hb hg3 hown (Nat.le_refl _) hb.size⟩
              rw [HL.out, List.map_append]
              exact hown3
            case measure => simp [intOf]; omega
      · have ht2 : ((s.length : Int) != 128) = true := by simp; omega
        rw [if_pos hs, List.append_nil] at heq
        have HE := Lib.hid heq
        clear heq s1 hsm
        go_wp2
        go_ret
        exact fin _ HE.out A0 c0 hown hb
    · obtain rfl : k = ls.length := by omega
      have ht : decide ((ls.length : Int) < (ls.length : Int)) = false := by rw [decide_eq_false_iff_not]; omega
      rw [List.drop_length, readL, List.append_nil] at heq
      clear h1 hr
      go_wp2
      go_ret
      exact fin _ heq A0 c0 hown hb
end Go.Proofs.YtkganajbilnanaaGreat
namespace Go.Proofs.YtkganajbilnanaaGreat
theorem layOf_nil : layOf [] = [] := rfl
theorem layOf_cons {l : List Nat} (h : l ≠ []) : layOf l = sectorOf (l.take 127) :: layOf (l.drop 127) := by
  have hp : 0 < l.length := List.length_pos_iff.2 h
  have hc : chunks l = chunks (l.drop 127) + 1 := by simp only [chunks, List.length_drop]; omega
  unfold layOf
  rw [hc, List.range_succ_eq_map, List.map_cons, List.map_map]
  congr 1
  refine List.map_congr_left fun k _ => ?_
  simp only [Function.comp, chunkOf, List.drop_drop]
  rw [show 127 * Nat.succ k = 127 + 127 * k by omega]
theorem last_sector {t : List Nat} (h : t.length ≤ 127) : last (sectorOf t) = t.length := by
  unfold last sectorOf
  rw [List.getElem?_append_right (by simp; omega)]
  simp only [List.length_append, List.length_replicate, show 127 - (t.length + (127 - t.length)) = 0 by omega]
  rfl
theorem take_sector (t : List Nat) : (sectorOf t).take t.length = t := by
  unfold sectorOf
  rw [List.append_assoc, List.take_left']
  rfl
theorem read_sector {t : List Nat} (h : t.length ≤ 127) (ss : List (List Nat)) : readL (sectorOf t :: ss) = if t.length < 127 then t else t ++ readL ss := by
  simp only [readL]
  rw [if_neg (by simp [sectorOf_length h]), last_sector h, if_neg (by omega), take_sector]
theorem layOf_length' (l : List Nat) : (layOf l).length = chunks l := by simp [layOf]
theorem zeros_sector : List.replicate 128 0 = sectorOf [] := by
  unfold sectorOf
  rw [List.nil_append, List.length_nil, Nat.sub_zero, ← List.replicate_succ']
theorem read_zeros (m : Nat) : readL (List.replicate m (List.replicate 128 0)) = [] := by
  cases m with
  | zero => rfl
  | succ m =>
    rw [List.replicate_succ, show List.replicate 128 0 = sectorOf [] from zeros_sector, read_sector (by simp)]
    simp
end Go.Proofs.YtkganajbilnanaaGreat
namespace Go.Proofs.YtkganajbilnanaaGreat
open Go.ChangeShapes Go.WideShapes Go.ChangeAt Go.RowKit
set_option maxRecDepth 20000
def countZ (n : Int) : Int := if n ≤ 0 then 0 else (n - 1) / 127 + 1
theorem refcount_any (n : Int) (w : World) (hn : (Lit.int .i64 n).wf = true) : Calls Tryz.prog 90 #[.int .i64 n] w fun e w' => e = .returned (.int .i64 (countZ n)) ∧ w = w' := by
  have hb := bounds_i64 hn
  rcases (show 0 < n ∨ n ≤ 0 by omega) with h | h
  · have ht : decide (n ≤ 0) = false := by rw [decide_eq_false_iff_not]; omega
    have hd : n.tdiv 127 = n / 127 := Int.tdiv_eq_ediv_of_nonneg (by omega)
    have hm : n.tmod 127 = n % 127 := Int.tmod_eq_emod_of_nonneg (by omega)
    obtain ⟨q, hq⟩ : ∃ q, n / 127 = q := ⟨_, rfl⟩
    obtain ⟨r, hr⟩ : ∃ r, n % 127 = r := ⟨_, rfl⟩
    have hq1 : 0 ≤ q ∧ q ≤ 9223372036854775807 / 2 := by omega
    have he : countZ n = if 0 < r then q + 1 else q := by unfold countZ; rw [if_neg (by omega)]; split <;> omega
    rw [he]
    rcases (show 0 < r ∨ r ≤ 0 by omega) with hr0 | hr0
    · rw [if_pos hr0]
      have ht2 : decide (0 < r) = true := by rw [decide_eq_true_iff]; omega
      go_enter Tryz.func90, Tryz.ntmps90
      go_wp2
      go_ret
      exact ⟨ret_int (by omega), rfl⟩
    · rw [if_neg (by omega)]
      have ht2 : decide (0 < r) = false := by rw [decide_eq_false_iff_not]; omega
      go_enter Tryz.func90, Tryz.ntmps90
      go_wp2
      go_ret
      exact ⟨ret_int (by omega), rfl⟩
  · have ht : decide (n ≤ 0) = true := by rw [decide_eq_true_iff]; omega
    have he : countZ n = 0 := by unfold countZ; rw [if_pos (by omega)]
    rw [he]
    go_enter Tryz.func90, Tryz.ntmps90
    go_wp2
    go_ret
    exact ⟨rfl, rfl⟩
def partOf (l : List Nat) (j : Nat) : List Nat := l.take j ++ List.replicate (128 - j) 0
theorem partOf_set {l : List Nat} {j : Nat} (h : j < l.length) (h2 : l.length ≤ 127) : (partOf l j).set j l[j] = partOf l (j + 1) := by
  unfold partOf
  rw [List.take_succ_eq_append_getElem h, show 128 - j = (128 - (j + 1)) + 1 by omega, List.replicate_succ, List.set_append_right _ _ (by simp; omega)]
  simp only [List.length_take, Nat.min_eq_left (Nat.le_of_lt h), Nat.sub_self, List.set_cons_zero, List.append_assoc, List.singleton_append]
theorem partOf_end {l : List Nat} (h2 : l.length ≤ 127) : (partOf l l.length).set 127 l.length = sectorOf l := by
  unfold partOf sectorOf
  rw [List.take_length, show 128 - l.length = (127 - l.length) + 1 by omega, List.replicate_succ', ← List.append_assoc, List.set_append_right _ _ (by simp; omega)]
  congr 1
  simp only [List.length_append, List.length_replicate, show 127 - (l.length + (127 - l.length)) = 0 by omega, List.set_cons_zero]
set_option maxHeartbeats 2000000 in
theorem sect7_any (A : Option Addr) (c : Nat) (l : List Nat) (k : Nat) (B : Nat) (w : World) (hl : Bytes w B A l) (hB : B ≤ w.heap.size) (hn : l.length ≤ 100000) (hk : k < 100000) :
    Calls Tryz.prog 91 #[.slice A l.length c, .int .i64 k] w fun e w' => ∃ g, e = .returned (.slice (some ⟨g, 0, none⟩) 128 128) ∧ w'.ownsRow w.heap.size 5 1 (.slice (some ⟨g, 0, none⟩) 128 128) 128 ((sectorOf (chunkOf l k)).map byteV) ∧ Below w.heap.size w w' := by
  obtain ⟨i0, hi0, hz0, hz1, hz2⟩ := info_parts u8_info
  obtain ⟨i, hi⟩ : ∃ i, 127 * k = i := ⟨_, rfl⟩
  have hiz : (127 : Int) * (k : Int) = (i : Int) := by omega
  have hib : i < 12700000 := by omega
  obtain ⟨m, hm⟩ : ∃ m, (chunkOf l k).length = m := ⟨_, rfl⟩
  have hm2 : m = min 127 (l.length - i) := by rw [← hm, chunkOf_length, hi]
  have hget : ∀ j (hj : j < m) (hh : i + j < l.length), (chunkOf l k)[j]'(by rw [hm]; exact hj) = l[i + j] := fun j hj hh => by
    simp only [chunkOf, List.getElem_take, List.getElem_drop]
    congr 1
    omega
  go_enter Tryz.func91, Tryz.ntmps91
  go_wp2_with (at_make; refine wpList_make_full _ rfl _ _ 45 rfl w.heap.size 5 i0 _ 1 Tryz.underlying45 hi0 hz0 hz1 .i64 .i64 _ _ 128 rfl rfl rfl rfl (by rw [hz2]; omega) (by unfold maxLen; omega) (Nat.le_refl _) ?_; intro w1 hown1 hg1)
  have hb1 : Below w.heap.size w w1 := (Below.refl _ _).grown hg1 (Nat.le_refl _) (by simp)
  have hown2 : w1.ownsRow w.heap.size 5 1 (.slice (some ⟨w.heap.size, 0, none⟩) 128 128) 128 ((partOf (chunkOf l k) 0).map byteV) := by
    have e : (madeCells (Value.int .u8 0).cells (128 * 1)).toList = (partOf (chunkOf l k) 0).map byteV := by
      rw [Nat.mul_one]
      refine (toList_madeCells_one _ 128).trans ?_
      simp [partOf, byteV]
    rw [← e]
    exact hown1
  clear hown1 hg1
  go_loopw [6, 7] (fun u i' wr => ∃ j : Nat, j ≤ m ∧ u = .int .i64 j ∧ i' = .int .i64 ((i + j : Nat) : Int) ∧ wr.ownsRow w.heap.size 5 1 (.slice (some ⟨w.heap.size, 0, none⟩) 128 128) 128 ((partOf (chunkOf l k) j).map byteV) ∧ Below w.heap.size w wr) (fun u _ _ => m - (intOf u).toNat)
  case atStart => exact ⟨0, by omega, rfl, rfl, hown2, hb1⟩
  case round =>
    clear hown2 hb1
    obtain ⟨j, hj, rfl, rfl, hown, hb⟩ := hrel
    obtain ⟨p, hp⟩ : ∃ p, i + j = p := ⟨_, rfl⟩
    rw [hp]
    rcases Nat.lt_or_ge j m with hlt | hge
    · have hpl : p < l.length := by omega
      have ht1 : decide ((p : Int) < (l.length : Int)) = true := by rw [decide_eq_true_iff]; omega
      have ht2 : decide ((j : Int) < 127) = true := by rw [decide_eq_true_iff]; omega
      obtain ⟨b, o, rfl, hbB, hcell, hsm⟩ := (hl.below (hb.mono hB)).at_ hpl
      have hz := hown.frozenAt j
      obtain ⟨v0, hv0⟩ : ∃ v0, wr.cell? ⟨w.heap.size, j, none⟩ = some v0 := ⟨_, (hown.cellAt j (by omega)).trans (List.getElem?_eq_getElem (by rw [hown.1]; omega))⟩
      have hst := Lib.hid (hown.stored j (byteV l[p]))
      have hset : ((partOf (chunkOf l k) j).map byteV).set j (byteV l[p]) = (partOf (chunkOf l k) (j + 1)).map byteV := by
        rw [← partOf_set (by omega) (by omega), List.map_set, hget j hlt (by omega)]
        congr 2
        exact getElem_congr_idx hp.symm
      generalize l[p] = y at *
      have HS := Lib.hid hset
      clear hset
      go_wp2
      go_roundw
      case rel =>
        obtain ⟨s1, s2⟩ := hst.out
        rw [HS.out] at s1
        have hbb := below_own (v := .slice (some ⟨w.heap.size, 0, none⟩) 128 128) hb s2 hown (Nat.le_refl _) hb.size
        exact ⟨j + 1, by omega, by go_num, by first | (congr 1; omega) | (rw [← hp]; go_num), s1, hbb⟩
      case measure => simp [intOf]; omega
    · obtain rfl : j = m := by omega
      have hst := Lib.hid (hown.stored 127 (byteV j))
      have hset : ((partOf (chunkOf l k) j).map byteV).set 127 (byteV j) = (sectorOf (chunkOf l k)).map byteV := by
        rw [← partOf_end (by omega), List.map_set, hm]
      have hz := hown.frozenAt 127
      obtain ⟨v0, hv0⟩ : ∃ v0, wr.cell? ⟨w.heap.size, 127, none⟩ = some v0 := ⟨_, (hown.cellAt 127 (by omega)).trans (List.getElem?_eq_getElem (by rw [hown.1]; omega))⟩
      have hj127 : j ≤ 127 := by omega
      have hq : (j : Int) % 256 = (j : Int) := by omega
      have HS := Lib.hid hset
      have hor : p < l.length ∧ j = 127 ∨ ¬ p < l.length := by omega
      clear hset hl hget hm hm2
      rcases hor with ⟨h1, h2⟩ | h1
      · have ht1 : decide ((p : Int) < (l.length : Int)) = true := by rw [decide_eq_true_iff]; omega
        have ht2 : decide ((j : Int) < 127) = false := by rw [decide_eq_false_iff_not]; omega
        go_wp2
        go_ret
        obtain ⟨s1, s2⟩ := hst.out
        rw [HS.out] at s1
        have hbb := below_own (v := .slice (some ⟨w.heap.size, 0, none⟩) 128 128) hb s2 hown (Nat.le_refl _) hb.size
        first | exact ⟨_, rfl, s1, hbb⟩ | (rw [h2] at s1 hbb; exact ⟨_, rfl, s1, hbb⟩)
      · have ht1 : decide ((p : Int) < (l.length : Int)) = false := by rw [decide_eq_false_iff_not]; omega
        go_wp2
        go_ret
        obtain ⟨s1, s2⟩ := hst.out
        rw [HS.out] at s1
        have hbb := below_own (v := .slice (some ⟨w.heap.size, 0, none⟩) 128 128) hb s2 hown (Nat.le_refl _) hb.size
        first | exact ⟨_, rfl, s1, hbb⟩ | (rw [h2] at s1 hbb; exact ⟨_, rfl, s1, hbb⟩)
theorem countZ_chunks (l : List Nat) : countZ (l.length : Int) = ((chunks l : Nat) : Int) := by
  unfold countZ chunks
  split <;> omega
theorem chunks_le {l : List Nat} (h : l.length ≤ 100000) : chunks l ≤ 1000 := by unfold chunks; omega
theorem layOf_length (l : List Nat) : (layOf l).length = chunks l := by simp [layOf]
set_option maxHeartbeats 2000000 in
theorem reflay_any (A : Option Addr) (c : Nat) (l : List Nat) (B : Nat) (w : World) (hl : Bytes w B A l) (hB : B ≤ w.heap.size) (hn : l.length ≤ 100000) :
    Calls Tryz.prog 38 #[.slice A l.length c] w (RetRows (layOf l) w) := by
  obtain ⟨i0, hi0, hz0, hz1, hz2⟩ := info_parts slice_info
  have hcz := countZ_chunks l
  have hcl := chunks_le hn
  have hwf : (Lit.int .i64 (l.length : Int)).wf = true := WalkArith.wf_i64 ⟨by omega, by omega⟩
  obtain ⟨N, hN⟩ : ∃ N, chunks l = N := ⟨_, rfl⟩
  rw [hN] at hcz hcl
  go_enter Tryz.func38, Tryz.ntmps38
  go_wp2_with fail
  go_loopw [3, 4] (fun v i wr => ∃ (k : Nat) (L : List Value), k ≤ N ∧ i = .int .i64 k ∧ wr.ownsRow w.heap.size 45 1 v k L ∧ Rows wr w.heap.size L ((List.range k).map fun k => sectorOf (chunkOf l k)) ∧ Below w.heap.size w wr) (fun _ i _ => N - (intOf i).toNat)
  case atStart => exact ⟨0, [], by omega, rfl, World.ownsRow_nil _ _ _ _, Rows.nil _ _, Below.refl _ _⟩
  case round =>
    obtain ⟨k, L, hk, rfl, hown, hr, hb⟩ := hrel
    obtain ⟨A0, c0, rfl, -, -⟩ := own_form hown
    have hl1 := hl.below (hb.mono hB)
    go_wp2_with fail
    refine (refcount_any _ _ hwf).mono ?_
    rintro e w1 ⟨rfl, rfl⟩
    rw [hcz]
    rcases Nat.lt_or_ge k N with hlt | hge
    · have ht : decide ((k : Int) < (N : Int)) = true := by rw [decide_eq_true_iff]; omega
      go_wp2_with fail
      refine (sect7_any A c l k B _ hl1 (Nat.le_trans hB hb.size) hn (by omega)).mono ?_
      rintro e w2 ⟨g, rfl, hs, hb2⟩
      have hown2 := hown.kept (w' := w2) (row := Option.none) ⟨hb2.os, hb2.tape, hb2.output, hb2.size, fun j hj _ => hb2.block j hj⟩ (by cases h : (Value.slice A0 k c0).ownBlock <;> simp)
      have hr2 := hr.grown (w' := w2) ⟨hb2.os, hb2.tape, hb2.output, hb2.size, fun j hj _ => hb2.block j hj⟩
      have hb3 := hb.trans (hb2.mono hb.size)
      have hcl2 := sectorOf_length (l := chunkOf l k) (by rw [chunkOf_length]; omega)
      have hsm := sectorOf_small (l := chunkOf l k) (by rw [chunkOf_length]; omega) (fun x hx => hl.2 x (List.mem_of_mem_drop (List.mem_of_mem_take hx)))
      have hsz := hb3.size
      have hrow := own_base (b' := w.heap.size) hb.size hs
      clear hl1 hb2 hown hr hb hs
      go_wp2_with (at_builtin; refine wpList_append_at rfl _ _ 22 rfl w.heap.size 45 i0 _ 24 Tryz.underlying22 hi0 hz0 hz1 hz2 rfl (.slice A0 k c0) k L rfl ?own (w2.heap.size + 1) (some ⟨w2.heap.size, 0, none⟩) 1 1 [.slice (some ⟨g, 0, none⟩) 128 128] rfl rfl (At.new w2 [.slice (some ⟨g, 0, none⟩) 128 128] 45 (0, 0)) (by simp [Value.oneCell']) (by unfold maxLen; omega) (by omega) (by rw [World.size_alloc]; omega) ?_; (case own => exact hown2.kept (World.grownBy_alloc _ _ none) (by cases h : (Value.slice A0 k c0).ownBlock <;> simp)); intro A1 c1 w4 hown4 hg4 hat4)
      have ho4 := Lib.hid hown4
      clear hown4 hat4
      go_roundw
      case rel =>
        have hag := World.grownBy_alloc w2 (.cells #[.slice (some ⟨g, 0, none⟩) 128 128] 45 (0, 0)) none
        have k5 : ∀ (u : Value) (m : List Nat), w2.ownsRow w.heap.size 5 1 u m.length (m.map byteV) → w4.ownsRow w.heap.size 5 1 u m.length (m.map byteV) := fun u m hu =>
          (hu.kept hag (by cases h : u.ownBlock <;> simp)).kept hg4 (own_apart (by decide) hu hown2)
        refine ⟨k + 1, L ++ [.slice (some ⟨g, 0, none⟩) 128 128], by omega, by go_num, ho4.out, ?_, ?_⟩
        · rw [List.range_succ, List.map_append, List.map_singleton]
          refine (hr2.imp k5).snoc ⟨⟨_, _, by rw [hcl2]⟩, k5 _ _ ?_, hsm⟩
          rw [hcl2]
          exact hrow
        · exact below_own (v := .slice A0 k c0) (hb3.alloc hsz _) hg4 (hown2.kept hag (by cases h : (Value.slice A0 k c0).ownBlock <;> simp)) (Nat.le_refl _) (by rw [World.size_alloc]; omega)
      case measure => simp [intOf]; omega
    · obtain rfl : k = N := by omega
      have ht : decide ((k : Int) < (k : Int)) = false := by rw [decide_eq_false_iff_not]; omega
      go_wp2
      go_ret
      subst hN
      refine ⟨A0, c0, L, ?_, ?_, hr, hb⟩
      · exact ret_slice (layOf_length l).symm
      · rw [layOf_length]; exact hown
set_option maxHeartbeats 4000000 in
theorem refst_any (A : Option Addr) (c : Nat) (L : List Value) (ls : List (List Nat)) (B : Nat) (w : World) (h1 : At w B A L) (hr : Reads w B L ls) (hB : B ≤ w.heap.size) (hn : ls.length ≤ 1100) :
    Calls Tryz.prog 35 #[.slice A ls.length c] w (RetBytes 5 (readL ls) w) := by
  obtain ⟨i0, hi0, hz0, hz1, hz2⟩ := info_parts u8_info
  have hsm := readL_small ls (fun l hl => by
    obtain ⟨j, hj, rfl⟩ := List.mem_iff_getElem.1 hl
    obtain ⟨A1, c1, _, _, b1⟩ := hr.2 j _ (List.getElem?_eq_getElem hj)
    exact b1.2)
  have fin : ∀ (l : List Nat), readL ls = l → ∀ (A0 : Option Addr) (c0 : Nat) {w' : World}, w'.ownsRow w.heap.size 5 1 (.slice A0 l.length c0) l.length (l.map byteV) → Below w.heap.size w w' → RetBytes 5 (readL ls) w (.returned (.slice A0 l.length c0)) w' := fun l e A0 c0 w' ho hb => by
    rw [e]
    exact ⟨A0, c0, rfl, ho, hb, by rw [← e]; exact hsm⟩
  go_enter Tryz.func35, Tryz.ntmps35
  go_wp2_with fail
  go_loopw [3, 4] (fun v i wr => ∃ (k : Nat) (l : List Nat), k ≤ ls.length ∧ i = .int .i64 k ∧ readL ls = l ++ readL (ls.drop k) ∧ l.length ≤ 127 * k ∧ wr.ownsRow w.heap.size 5 1 v l.length (l.map byteV) ∧ Below w.heap.size w wr) (fun _ i _ => ls.length - (intOf i).toNat)
  case atStart => exact ⟨0, [], by omega, rfl, rfl, by simp, World.ownsRow_nil _ _ _ _, Below.refl _ _⟩
  case round =>
    obtain ⟨k, l, hk, rfl, heq, hll, hown, hb⟩ := hrel
    obtain ⟨A0, c0, rfl, -, -⟩ := own_form hown
    rcases Nat.lt_or_ge k ls.length with hlt | hge
    · have ht : decide ((k : Int) < (ls.length : Int)) = true := by rw [decide_eq_true_iff]; omega
      obtain ⟨A1, c1, e1, hc1, b1⟩ := hr.2 k _ (List.getElem?_eq_getElem hlt)
      obtain ⟨b, o, rfl, hbB, q1⟩ := h1 k (by rw [hr.1]; exact hlt)
      rw [← List.getElem?_eq_getElem, e1] at q1
      have p1 := ((hb.mono hB).cell (p := ⟨b, o + k, none⟩) hbB).trans q1
      have s1 := b1.below (hb.mono hB)
      rw [readL_drop hlt] at heq
      clear q1 e1 h1 hr b1
      generalize hss : ls[k] = s at *
      by_cases hs : s.length = 128
      · have ht2 : ((s.length : Int) != 128) = false := by rw [hs]; rfl
        obtain ⟨b2, o2, rfl, hb2, hc2, hy⟩ := s1.at_ (k := 127) (by omega)
        have hlast : last s = s[127] := by unfold last; rw [List.getElem?_eq_getElem (by omega)]; rfl
        generalize s[127] = y at *
        rw [hlast] at heq
        rw [if_neg (by simp [hs])] at heq
        have hs1 : (s.length : Int) = 128 := by omega
        by_cases hy1 : 127 < y
        · have ht3 : decide ((127 : Int) < (y : Int)) = true := by rw [decide_eq_true_iff]; omega
          rw [if_pos hy1, List.append_nil] at heq
          have HE := Lib.hid heq
          clear heq hlast s1 hsm
          go_wp2
          go_ret
          exact fin _ HE.out A0 c0 hown hb
        · have ht3 : decide ((127 : Int) < (y : Int)) = false := by rw [decide_eq_false_iff_not]; omega
          rw [if_neg hy1] at heq
          have hy2 : y ≤ c1 := by omega
          have hlen : (l ++ s.take y).length = l.length + y := by simp; omega
          have hlen2 : (s.take y).length = y := by simp; omega
          have hT := (s1.take y).1
          have HE := Lib.hid heq
          have HL := Lib.hid hlen
          clear heq hlast s1 hsm hlen
          by_cases hy3 : y < 127
          · have ht4 : decide ((y : Int) < 127) = true := by rw [decide_eq_true_iff]; omega
            go_wp2_with (at_builtin; refine wpList_append_at rfl _ _ 45 rfl w.heap.size 5 i0 _ 1 Tryz.underlying45 hi0 hz0 hz1 hz2 rfl (.slice A0 l.length c0) l.length (l.map byteV) rfl hown B (some ⟨b2, o2, none⟩) y c1 ((s.take y).map byteV) rfl (by rw [List.length_map]; exact hlen2) hT (bytes_oneCell _) (by unfold maxLen; omega) (by omega) hb.size ?_; intro A3 c3 w3 hown3 hg3 hat3)
            go_ret
            have hE := HE.out
            rw [if_pos hy3] at hE
            rw [← HL.out] at hown3
            rw [← List.map_append] at hown3
            have := fin _ hE A3 c3 hown3 (below_own hb hg3 hown (Nat.le_refl _) hb.size)
            rwa [HL.out] at this
          · have ht4 : decide ((y : Int) < 127) = false := by rw [decide_eq_false_iff_not]; omega
            go_wp2_with (at_builtin; refine wpList_append_at rfl _ _ 45 rfl w.heap.size 5 i0 _ 1 Tryz.underlying45 hi0 hz0 hz1 hz2 rfl (.slice A0 l.length c0) l.length (l.map byteV) rfl hown B (some ⟨b2, o2, none⟩) y c1 ((s.take y).map byteV) rfl (by rw [List.length_map]; exact hlen2) hT (bytes_oneCell _) (by unfold maxLen; omega) (by omega) hb.size ?_; intro A3 c3 w3 hown3 hg3 hat3)
            go_roundw
            case rel =>
              have hE := HE.out
              rw [if_neg hy3, ← List.append_assoc] at hE
              refine ⟨k + 1, l ++ s.take y, by omega, by go_num, hE, by rw [HL.out]; omega, ?_, below_own hb hg3 hown (Nat.le_refl _) hb.size⟩
              rw [HL.out, List.map_append]
              exact hown3
            case measure => simp [intOf]; omega
      · have ht2 : ((s.length : Int) != 128) = true := by simp; omega
        rw [if_pos hs, List.append_nil] at heq
        have HE := Lib.hid heq
        clear heq s1 hsm
        go_wp2
        go_ret
        exact fin _ HE.out A0 c0 hown hb
    · obtain rfl : k = ls.length := by omega
      have ht : decide ((ls.length : Int) < (ls.length : Int)) = false := by rw [decide_eq_false_iff_not]; omega
      rw [List.drop_length, readL, List.append_nil] at heq
      clear h1 hr
      go_wp2
      go_ret
      exact fin _ heq A0 c0 hown hb
end Go.Proofs.YtkganajbilnanaaGreat
