/- seal.Seal: what it makes. Conditions: the stamp fits. -/
import Derived.Test.YtkmfacmigonbcaaChunk
import Derived.Test.YtkmfacmigonbcaaConcat
import Derived.Test.YtkmfacmigonbcaaRegionIn
import Derived.Test.YtkmfacmigonbcaaBlks
namespace Go.Proofs.Ytkmfacmigonbcaa
open Go.ChangeShapes Go.WideShapes Go.ChangeAt Go.RowKit Go.Shelf
open NumMath
attribute [local go_sem] Oper.semAt_some
attribute [local go_sem ↓] Go.wp_at_zero Go.wp_at_succ
set_option linter.unusedVariables false
set_option linter.unusedSimpArgs false

def sealOf (b : List Nat) (st : Nat) : List (List Nat) := if b.length = 448 then (List.range 4).map fun k => putF 8 st ++ chunkOf b k ++ putF 8 st else []
theorem slice_info : (Try.prog.info? 22).map (fun i => (i.zero, i.size, i.bytes)) = some (some (.slice none 0 0), 1, 24) := by kernel_rfl
theorem step_append_y {P : Program} {w : World} {o : Oper} {y} {a : Act} {K : Act → World → Prop} {Q : Exit → Act → World → Prop} {E : Prop} (hgd : o.guard = none) (s x : Operand) (t t' : TypeId)
    (ho : o.op = .call { callee := .builtin .append, args := #[s, x], argTypes := #[t, t'] })
    (base : Nat) (e : TypeId) (i : TypeInfo) (z : Value) (bytes : Nat) (ht : P.underlying t = some (.slice e)) (ht' : P.underlying t' = some (.slice e)) (hi : P.info? e = some i) (hz : i.zero = some z)
    (hsize : i.size = 1) (hby : i.bytes = bytes) (hzs : z.cells.size = 1) (v : Value) (n : Nat) (xs : List Value) (hs : a.eval s = v) (hown : w.ownsRow base e 1 v n xs)
    (B : Nat) (A : Option Addr) (m c : Nat) (news : List Value) (hx : a.eval x = .slice A m c) (hm : news.length = m) (hr : At w B A news) (h1 : ∀ u ∈ news, u.oneCell' = true)
    (h63 : n + m ≤ maxLen) (hbytes : (n + m) * bytes ≤ 140737488355328) (hbase : base ≤ w.heap.size)
    (h : ∀ A' c' w', w'.ownsRow base e 1 (.slice A' (n + m) c') (n + m) (xs ++ news) → w.grownBy w' v.ownBlock → ((Value.slice A' (n + m) c').ownBlock = v.ownBlock ∨ (Value.slice A' (n + m) c').ownBlock = some w.heap.size) →
      K (a.put o.dst (.slice A' (n + m) c')) w') : if Region.wanted o y = true then Oper.wp P o a w K Q else E := by
  have hw : Region.wanted o y = true := by simp [Region.wanted, hgd]
  rw [if_pos hw]
  exact wp_append_at s x t t' ho base e i z bytes ht ht' hi hz hsize hby hzs v n xs hs hown B A m c news hx hm hr h1 h63 hbytes hbase h
set_option maxRecDepth 100000 in
set_option maxHeartbeats 4000000 in
theorem Seal_in (n : Nat) (hn : 3 ≤ n) (A : Option Addr) (zs : List Nat) (c : Nat) (hcap : zs.length ≤ c) (hlen : zs.length = 448) (st : Nat) (hst : st < 18446744073709551616) (w : World) (hat : Bytes w w.heap.size A zs) :
    CallsIn Fence.wide n Try.prog 10 #[.slice A zs.length c, .int .u64 st] w (RetRows (sealOf zs st) w) := by
  have h1 : 1 ≤ n := by omega
  obtain ⟨i0, hi, hz0, hz1, hz2⟩ := info_parts slice_info
  have hAA : zs ≠ [] → ∃ b o, A = some ⟨b, o, none⟩ := fun hne => by
    obtain ⟨b, o, e, _⟩ := hat.at_ (k := 0) (List.length_pos_iff.2 hne)
    exact ⟨b, o, e⟩
  have ht : ((zs.length : Int) != 448) = false := by rw [hlen]; rfl
  have hput := fun W => (callsIn_wide (n := n - 1)).2 (put_any st 8 W hst (by omega) (by omega))
  have hp8 : putB st 8 = putF 8 st := rfl
  rw [hp8] at hput
  have hpl := putF_length 8 st
  refine callsIn_of_wp_marks Try.func10 rfl trivial ?_ rfl
  simp only [Try.ntmps10, List.size_toArray, List.length_cons, List.length_nil, Nat.reduceAdd, Nat.reduceSub, Array.replicate_succ, Array.replicate_zero, List.push_toArray, List.append_toArray, List.nil_append, List.cons_append]
  gi_wp2_with (refine ⟨trivial, ?_⟩; gi_at_call 19; refine (hput _).mono ?_; intro e w1 hret; obtain ⟨A1, c1, rfl, hown1, hb1, hx1⟩ := hret.is; clear hret)
  have hpl8 : (putF 8 st).length = 8 := hpl
  obtain ⟨gm, rfl, hgm, hgm'⟩ := own_pos hown1 (by rw [hpl]; omega)
  rw [World.size_alloc] at hgm
  have hc18 : 8 ≤ c1 := by have := own_cap hown1; omega
  obtain ⟨W0, hW0⟩ : ∃ W0, ((w1.alloc (.cells #[.slice (some ⟨gm, 0, none⟩) 8 c1] 22)).alloc (.cells #[.slice A zs.length c] 22)).alloc (.cells #[.int .i64 112] 3) = W0 := ⟨_, rfl⟩
  have hbo : w.heap.size < w1.heap.size := Nat.lt_of_lt_of_le (by simp) hb1.size
  have hsz : W0.heap.size = w1.heap.size + 3 := by rw [← hW0]; simp
  have hB10 : Below w1.heap.size w1 W0 := by rw [← hW0]; exact (((Below.refl _ w1).alloc (Nat.le_refl _) _).alloc (by simp) _).alloc (by simp; omega) _
  have hBw1 : Below w.heap.size w w1 := ((Below.refl _ w).alloc (Nat.le_refl _) _).trans (hb1.mono (by simp))
  have hB0 : Below w.heap.size w W0 := hBw1.trans (hB10.mono hBw1.size)
  have bO : Boxed W0 w.heap.size 27 (.slice none 0 0) := (hB10.block _ hbo).trans ((hb1.block _ (by simp)).trans (World.alloc_heap_new w _))
  have bM : Boxed W0 w1.heap.size 22 (.slice (some ⟨gm, 0, none⟩) 8 c1) := by rw [← hW0]; exact ((Boxed.new w1 _ _).alloc _).alloc _
  have bS : Boxed W0 (w1.heap.size + 1) 22 (.slice A zs.length c) := by
    rw [← hW0]
    have := (Boxed.new (w1.alloc (.cells #[.slice (some ⟨gm, 0, none⟩) 8 c1] 22)) 22 (.slice A zs.length c)).alloc (.cells #[.int .i64 112] 3)
    rwa [World.size_alloc] at this
  have bN : Boxed W0 (w1.heap.size + 2) 3 (.int .i64 112) := by
    rw [← hW0]
    have := Boxed.new ((w1.alloc (.cells #[.slice (some ⟨gm, 0, none⟩) 8 c1] 22)).alloc (.cells #[.slice A zs.length c] 22)) 3 (.int .i64 112)
    simp only [World.size_alloc] at this
    exact this
  have hmark : Bytes W0 w1.heap.size (some ⟨gm, 0, none⟩) (putF 8 st) := hx1.below hB10
  have hsrc : Bytes W0 w.heap.size A zs := hat.below hB0
  rw [hlen] at hW0 bS
  gi_wp2_with (refine ⟨trivial, ?_⟩; gi_at_call 20; refine (chunk_in (n - 1) _ _ _ _).mono ?_; rintro e w' ⟨rfl, rfl⟩)
  try simp only [World.size_alloc]
  try rw [hW0]
  refine wpIn_rangeFunc_ownG rfl h1 (gf := 25) (lb := #[.pointer (some ⟨w1.heap.size + 1, 0, none⟩), .pointer (some ⟨w1.heap.size + 2, 0, none⟩)]) rfl trivial (enters_of Try.func25 (by kernel_rfl) rfl)
    (chunk_stops (n - 1) (by omega) (w1.heap.size + 1) (w1.heap.size + 2) A zs c hcap (by omega) hAA W0 (by omega) (by omega) (by rw [hlen]; exact bS.cell) bN.cell) Boxes2.t (Boxes2.b (by omega) (by omega)) (Below.refl _ _) (fun _ => rfl)
    (fun pre W => ∃ L v, Boxed W w.heap.size 27 v ∧ W.ownsRow W0.heap.size 22 1 v pre.length L ∧ Rows W W0.heap.size L (pre.map fun k => putF 8 st ++ chunkOf zs k ++ putF 8 st) ∧ Only (fun b => b = w.heap.size) W0 W)
    (fun _ _ _ => False) ?own (fun _ _ _ _ _ hs _ _ => hs)
    ⟨[], _, bO, World.ownsRow_nil _ _ _ _, Rows.nil _ _, Only.refl _ _⟩
    (fun x => { tmps := #[.slice A 448 c, .int .u64 st, undef, undef, .slice none 0 0, .pointer (some ⟨w.heap.size, 0, none⟩), .pointer (some ⟨w1.heap.size, 0, none⟩), chunkV A zs x, .slice A 448 c, .int .i64 448, .bool false, .int .u64 st, .slice (some ⟨gm, 0, none⟩) 8 c1, .slice A 448 c, .func (.func 25) #[] #[.pointer (some ⟨w1.heap.size + 1, 0, none⟩), .pointer (some ⟨w1.heap.size + 2, 0, none⟩)], chunkV A zs x, undef, undef, undef, undef, undef, undef, undef, undef, undef], defers := [] }) ?assign ?body ?done ?stop
  case own =>
    rintro pre X Y row ⟨L, v, hv, ho, hr, hO⟩ hg hrow
    have hrow' := fun r e => (hrow r e).2
    refine ⟨L, v, hv.kept hg ?_, ho.kept hg (own_notcells ho hrow'), hr.imp fun v l h => h.kept hg (own_notcells h hrow'), hO.trans (Only.of_grown (S := fun b => W0.heap.size ≤ b) hg (fun k e => .inl (hrow k e).1)) (fun b q => .inr q)⟩
    intro e
    obtain ⟨o, ho, hc⟩ := hrow' _ e.symm
    rw [show X.heap[w.heap.size]? = _ from hv] at ho
    cases ho
    cases hc
  case assign =>
    intro l x W K hK
    gi_wp2
    exact hK
  case body =>
    rintro l pre x W ⟨L, v, hv, hrow, hr, hO⟩ hlt
    have hm : Boxed W w1.heap.size 22 (.slice (some ⟨gm, 0, none⟩) 8 c1) := (hO.block _ bM.lt (by omega)).trans bM
    have hcm := hm.cell
    have hcv := hv.cell
    obtain ⟨Av, cv, rfl, -, -⟩ := own_form hrow
    gi_wp2_with fail
    refine region_round (S := fun w' => w'.cell? ⟨w1.heap.size, 0, none⟩ = some (.slice (some ⟨gm, 0, none⟩) 8 c1)) (by kernel_rfl) (by kernel_rfl) (by rintro ⟨_, _, h⟩; exact h) ?_
    have hbX0 : Below W.heap.size W W.drew := (Below.refl _ W).drew
    have m0 : W.drew.cell? ⟨w1.heap.size, 0, none⟩ = some (.slice (some ⟨gm, 0, none⟩) 8 c1) := hcm
    have v0 : W.drew.cell? ⟨w.heap.size, 0, none⟩ = some (.slice Av pre.length cv) := hcv
    have hwl := hv.lt
    have hml := hm.lt
    have hpl : pre.length < 4 := by have : chunks zs = 4 := by unfold chunks; omega
                                    omega
    have hx4 : x < 1000000 ∨ True := .inr trivial
    obtain ⟨q, hq⟩ : ∃ q, (chunkOf zs x).length = q := ⟨_, rfl⟩
    have hq112 : q ≤ 112 := by rw [← hq, chunkOf_length]; omega
    obtain ⟨Ac, hAc⟩ : ∃ Ac, shift A (112 * x) = Ac := ⟨_, rfl⟩
    have hcb : Bytes W W0.heap.size Ac (chunkOf zs x) := by
      rw [← hAc]
      have h0 := ((hsrc.drop (112 * x)).take 112)
      refine ⟨fun j hj => ?_, h0.2⟩
      obtain ⟨b, o, e, hb, hc⟩ := h0.1 j hj
      exact ⟨b, o, e, Nat.lt_of_lt_of_le hb hB0.size, (hO.cell (p := ⟨b, o + j, none⟩) (Nat.lt_of_lt_of_le hb hB0.size) (fun e => by simp only at e; omega)).trans hc⟩
    have hmb : Bytes W W0.heap.size (some ⟨gm, 0, none⟩) (putF 8 st) := by
      refine ⟨fun j hj => ?_, hmark.2⟩
      obtain ⟨b, o, e, hb, hc⟩ := hmark.1 j hj
      injection e with e
      injection e with e1 e2
      subst e1
      subst e2
      exact ⟨gm, 0, rfl, by omega, (hO.cell (p := ⟨gm, 0 + j, none⟩) (show gm < W0.heap.size by omega) (fun e => by simp only at e; omega)).trans hc⟩
    have hb4 : Below W.heap.size W (W.alloc (.cells #[.slice (some ⟨gm, 0, none⟩) 8 c1, .slice Ac q q, .slice (some ⟨gm, 0, none⟩) 8 c1] 22)).drew := ((Below.refl _ W).alloc (Nat.le_refl _) _).drew
    have hWW0 : W0.heap.size ≤ W.heap.size := hO.size
    have hcat : Calls Try.prog 21 #[.slice (some ⟨W.heap.size, 0, none⟩) 3 3] (W.alloc (.cells #[.slice (some ⟨gm, 0, none⟩) 8 c1, .slice Ac q q, .slice (some ⟨gm, 0, none⟩) 8 c1] 22)).drew (RetBytes 5 (putF 8 st ++ chunkOf zs x ++ putF 8 st) (W.alloc (.cells #[.slice (some ⟨gm, 0, none⟩) 8 c1, .slice Ac q q, .slice (some ⟨gm, 0, none⟩) 8 c1] 22)).drew) := by
      have hcc := concat_any (some ⟨W.heap.size, 0, none⟩) 3 [.slice (some ⟨gm, 0, none⟩) 8 c1, .slice Ac q q, .slice (some ⟨gm, 0, none⟩) 8 c1] [putF 8 st, chunkOf zs x, putF 8 st] (W.heap.size + 1) (W.alloc (.cells #[.slice (some ⟨gm, 0, none⟩) 8 c1, .slice Ac q q, .slice (some ⟨gm, 0, none⟩) 8 c1] 22)).drew
        (At.new W [.slice (some ⟨gm, 0, none⟩) 8 c1, .slice Ac q q, .slice (some ⟨gm, 0, none⟩) 8 c1] 22 (0, 0)) ⟨rfl, fun j l hl => ?_⟩ (by show _ ≤ (W.alloc _).heap.size; rw [World.size_alloc]; exact Nat.le_refl _) (by simp) (by simp [putF_length, hq]; omega)
      · rw [show [putF 8 st, chunkOf zs x, putF 8 st].flatten = putF 8 st ++ chunkOf zs x ++ putF 8 st by simp] at hcc
        exact hcc
      · have hmb' := (hmb.below (hb4.mono hWW0)).more (show W0.heap.size ≤ W.heap.size + 1 by omega)
        have hcb' := (hcb.below (hb4.mono hWW0)).more (show W0.heap.size ≤ W.heap.size + 1 by omega)
        match j, hl with
        | 0, hl => cases hl; exact ⟨_, c1, by rw [hpl8]; rfl, by rw [hpl8]; exact hc18, hmb'⟩
        | 1, hl => cases hl; exact ⟨_, q, by rw [hq]; rfl, by omega, hcb'⟩
        | 2, hl => cases hl; exact ⟨_, c1, by rw [hpl8]; rfl, by rw [hpl8]; exact hc18, hmb'⟩
    obtain ⟨sx, hsx⟩ : ∃ sx, putF 8 st ++ chunkOf zs x ++ putF 8 st = sx := ⟨_, rfl⟩
    rw [hsx] at hcat
    have m4 : (W.alloc (.cells #[.slice (some ⟨gm, 0, none⟩) 8 c1, .slice Ac q q, .slice (some ⟨gm, 0, none⟩) 8 c1] 22)).drew.cell? ⟨w1.heap.size, 0, none⟩ = some (.slice (some ⟨gm, 0, none⟩) 8 c1) := (hb4.cell (p := ⟨w1.heap.size, 0, none⟩) hml).trans hcm
    have v4 : (W.alloc (.cells #[.slice (some ⟨gm, 0, none⟩) 8 c1, .slice Ac q q, .slice (some ⟨gm, 0, none⟩) 8 c1] 22)).drew.cell? ⟨w.heap.size, 0, none⟩ = some (.slice Av pre.length cv) := (hb4.cell (p := ⟨w.heap.size, 0, none⟩) hwl).trans hcv
    have HSX := Lib.hid hsx
    have HQ := Lib.hid hq
    have hch4 : chunkV A zs x = .slice Ac q q := by unfold chunkV; rw [hAc, hq]
    have hcsm : Small (chunkOf zs x) := hcb.2
    clear hsx hq hmb hcb hAc
    have hxs : sx = putF 8 st ++ chunkOf zs x ++ putF 8 st := HSX.out.symm
    have hsmall : Small sx := by
      rw [hxs]
      have hsp : Small (putF 8 st) := hmark.2
      exact small_append (small_append hsp hcsm) hsp
    have hfin : ∀ (Y : World) (A5 : Option Addr) (c5 : Nat) (A7 : Option Addr) (c7 : Nat) (w7 : World), Y.ownsRow (W.alloc (.cells #[.slice (some ⟨gm, 0, none⟩) 8 c1, .slice Ac q q, .slice (some ⟨gm, 0, none⟩) 8 c1] 22)).drew.heap.size 5 1 (.slice A5 sx.length c5) sx.length (sx.map byteV) → Below W.heap.size W Y →
        w7.ownsRow W0.heap.size 22 1 (.slice A7 (pre.length + 1) c7) (pre.length + 1) (L ++ [.slice A5 sx.length c5]) → (Y.alloc (.cells #[.slice A5 sx.length c5] 22)).grownBy w7 (Value.slice Av pre.length cv).ownBlock →
        KeepsFrom W0.heap.size W (w7.setCell ⟨w.heap.size, 0, none⟩ (.slice A7 (pre.length + 1) c7)) ∧ Boxes2 (w1.heap.size + 1) (w1.heap.size + 2) W (w7.setCell ⟨w.heap.size, 0, none⟩ (.slice A7 (pre.length + 1) c7)) ∧
        ∃ L v, Boxed (w7.setCell ⟨w.heap.size, 0, none⟩ (.slice A7 (pre.length + 1) c7)) w.heap.size 27 v ∧ (w7.setCell ⟨w.heap.size, 0, none⟩ (.slice A7 (pre.length + 1) c7)).ownsRow W0.heap.size 22 1 v (pre ++ [x]).length L ∧ Rows (w7.setCell ⟨w.heap.size, 0, none⟩ (.slice A7 (pre.length + 1) c7)) W0.heap.size L ((pre ++ [x]).map fun k => putF 8 st ++ chunkOf zs k ++ putF 8 st) ∧ Only (fun b => b = w.heap.size) W0 (w7.setCell ⟨w.heap.size, 0, none⟩ (.slice A7 (pre.length + 1) c7)) := by
      intro Y A5 c5 A7 c7 w7 hown5 hbY hown7 hg7
      have hrowY := kept_none (below_none hbY) hrow
      have bOY : Boxed Y w.heap.size 27 (.slice Av pre.length cv) := (hbY.block _ hwl).trans hv
      have bO7 : Boxed w7 w.heap.size 27 (.slice Av pre.length cv) := (bOY.alloc _).kept hg7 (Boxed.not_row (bOY.alloc (.cells #[.slice A5 sx.length c5] 22)) (by decide) (hrowY.alloc _))
      have hrl : ∀ k, (Value.slice Av pre.length cv).ownBlock = some k → W0.heap.size ≤ k ∧ k < W.heap.size := fun k e => hrow.lt k e
      have O1 : Only (fun b => b = w.heap.size ∨ some b = (Value.slice Av pre.length cv).ownBlock) W w7 :=
        ((Only.of_below hbY _).alloc (.cells #[.slice A5 sx.length c5] 22)).trans (Only.of_grown (S := fun b => b = w.heap.size ∨ some b = (Value.slice Av pre.length cv).ownBlock) hg7 (fun k e => .inl (.inr e.symm))) (fun b q => .inl q)
      have O2 := O1.setCell (p := ⟨w.heap.size, 0, none⟩) (.inl (.inl rfl)) (.slice A7 (pre.length + 1) c7)
      have keepR : ∀ (v : Value) (l : List Nat), (Y.alloc (.cells #[.slice A5 sx.length c5] 22)).ownsRow W0.heap.size 5 1 v l.length (l.map byteV) → (w7.setCell ⟨w.heap.size, 0, none⟩ (.slice A7 (pre.length + 1) c7)).ownsRow W0.heap.size 5 1 v l.length (l.map byteV) := fun v l h => by
        have h7 := h.kept hg7 (own_apart (by decide) h (hrowY.alloc (.cells #[.slice A5 sx.length c5] 22)))
        refine ownsRow_setCell_other h7 (a := ⟨w.heap.size, 0, none⟩) ?_ _
        rcases own_block (by decide) h7 bO7 with e | e
        · rw [e]; exact fun q => by cases q
        · exact e
      refine ⟨⟨O2.size, fun k o hB hk ho => ?_⟩, ⟨?_, ?_⟩, L ++ [.slice A5 sx.length c5], _, bO7.set _, ?_, ?_, ?_⟩
      · refine (O2.block k (Array.getElem?_eq_some_iff.1 hk).1 ?_).trans hk
        rintro (e | e)
        · omega
        · rcases own_notcells hrow (row := some k) (fun r e => by cases e; exact ⟨o, hk, ho⟩) with e' | e'
          · rw [e'] at e; cases e
          · exact e' e.symm
      · refine O2.block _ (by omega) ?_
        rintro (e | e)
        · omega
        · have := (hrl _ e.symm).1; omega
      · refine O2.block _ (by omega) ?_
        rintro (e | e)
        · omega
        · have := (hrl _ e.symm).1; omega
      · rw [List.length_append]
        refine ownsRow_setCell_other hown7 (a := ⟨w.heap.size, 0, none⟩) ?_ _
        rcases own_block (by decide) hown7 bO7 with e | e
        · rw [e]; exact fun q => by cases q
        · exact e
      · rw [List.map_append]
        refine Rows.snoc (hr.imp fun v l h => keepR v l ((kept_none (below_none hbY) h).alloc _)) ?_
        show RowIs _ _ _ (putF 8 st ++ chunkOf zs x ++ putF 8 st)
        rw [← hxs]
        exact ⟨⟨A5, c5, rfl⟩, keepR _ _ ((own_base (by have := hb4.size; omega) hown5).alloc _), hsmall⟩
      · refine hO.trans O2 ?_
        rintro b (e | e)
        · exact .inl e
        · exact .inr (hrl b e.symm).1
    clear hxs
    rw [hch4]
    refine wpAnyH_take (i := 1) (oi := _) (v := .slice (some ⟨gm, 0, none⟩) 8 c1) rfl (by kernel_rfl) (by kernel_rfl) (by kernel_rfl) (fun _ _ _ h => h) (Or.inl ⟨by rfl, fun w' hw' => by go_simp⟩) m0 ?_
    (try simp only [Act.put, List.setIfInBounds_toArray, List.set_cons_zero, List.set_cons_succ])
    refine wpAnyH_take (i := 2) (oi := _) (v := .slice Ac q q) rfl (by kernel_rfl) (by kernel_rfl) (by kernel_rfl) (fun _ _ _ h => h) (Or.inl ⟨by rfl, fun w' hw' => by go_simp⟩) m0 ?_
    (try simp only [Act.put, List.setIfInBounds_toArray, List.set_cons_zero, List.set_cons_succ])
    refine wpAnyH_take (i := 3) (oi := _) (v := .slice (some ⟨gm, 0, none⟩) 8 c1) rfl (by kernel_rfl) (by kernel_rfl) (by kernel_rfl) (fun _ _ _ h => h) (Or.inl ⟨by rfl, fun w' hw' => by go_simp⟩) m0 ?_
    (try simp only [Act.put, List.setIfInBounds_toArray, List.set_cons_zero, List.set_cons_succ])
    -- TREE
    refine wpAnyH_ready (rs := [0, 4]) (by kernel_rfl) (by simp) (AllReadyH.cons rfl (fun K hK => ?_) (AllReadyH.cons rfl (fun K hK => ?_) (AllReadyH.nil)))
    ·
      try simp only [List.getElem_toArray, List.getElem_cons_succ, List.getElem_cons_zero]
      go_simp
      refine hK.out _ _ m0 (fun hHeld => ?_)
      clear hK K
      try simp only [Act.put, List.setIfInBounds_toArray, List.set_cons_zero, List.set_cons_succ]
      refine wpAnyH_ready (rs := [4]) (by kernel_rfl) (by simp) (AllReadyH.cons rfl (fun K hK => ?_) (AllReadyH.nil))
      try simp only [List.getElem_toArray, List.getElem_cons_succ, List.getElem_cons_zero]
      go_simp
      refine hK.out _ _ m4 (fun hHeld => ?_)
      clear hK K
      try simp only [Act.put, List.setIfInBounds_toArray, List.set_cons_zero, List.set_cons_succ]
      refine wpAnyH_ready (rs := [5]) (by kernel_rfl) (by simp) (AllReadyH.cons rfl (fun K hK => ?_) (AllReadyH.nil))
      try simp only [List.getElem_toArray, List.getElem_cons_succ, List.getElem_cons_zero]
      go_simp
      with_reducible refine hcat.mono ?_
      intro e Y hret
      obtain ⟨A5, c5, rfl, hown5, hb5, hx5⟩ := hret.is
      have hbY : Below W.heap.size W Y := hb4.trans (hb5.mono hb4.size)
      have hmY : Boxed Y w1.heap.size 22 (.slice (some ⟨gm, 0, none⟩) 8 c1) := (hbY.block _ hml).trans hm
      have bOY : Boxed Y w.heap.size 27 (.slice Av pre.length cv) := (hbY.block _ hwl).trans hv
      have mY := hmY.cell
      have vY := bOY.cell
      have m6 : (Y.alloc (.cells #[.slice A5 sx.length c5] 22)).cell? ⟨w1.heap.size, 0, none⟩ = some (.slice (some ⟨gm, 0, none⟩) 8 c1) := (hmY.alloc _).cell
      have v6 : (Y.alloc (.cells #[.slice A5 sx.length c5] 22)).cell? ⟨w.heap.size, 0, none⟩ = some (.slice Av pre.length cv) := (bOY.alloc _).cell
      have hrowY := kept_none (below_none hbY) hrow
      have hszY := hbY.size
      clear hret
      refine hK.out _ _ mY (fun hHeld => ?_)
      clear hK K
      try simp only [Act.put, List.setIfInBounds_toArray, List.set_cons_zero, List.set_cons_succ]
      refine wpAnyH_ready (rs := [6]) (by kernel_rfl) (by simp) (AllReadyH.cons rfl (fun K hK => ?_) (AllReadyH.nil))
      try simp only [List.getElem_toArray, List.getElem_cons_succ, List.getElem_cons_zero]
      go_simp
      refine hK.out _ _ m6 (fun hHeld => ?_)
      clear hK K
      try simp only [Act.put, List.setIfInBounds_toArray, List.set_cons_zero, List.set_cons_succ]
      refine wpAnyH_ready (rs := [7]) (by kernel_rfl) (by simp) (AllReadyH.cons rfl (fun K hK => ?_) (AllReadyH.nil))
      try simp only [List.getElem_toArray, List.getElem_cons_succ, List.getElem_cons_zero]
      refine step_append_y (by rfl) _ _ 27 27 (by rfl) W0.heap.size 22 i0 _ 24 Try.underlying27 Try.underlying27 hi hz0 hz1 hz2 rfl (.slice Av pre.length cv) pre.length L (by rfl) (hrowY.alloc _) (Y.heap.size + 1) (some ⟨Y.heap.size, 0, none⟩) 1 1 [.slice A5 sx.length c5] (by rfl) rfl (At.new Y [.slice A5 sx.length c5] 22 (0, 0)) (by simp [Value.oneCell']) (by unfold maxLen; omega) (by omega) (by rw [World.size_alloc]; omega) ?_
      intro A7 c7 w7 hown7 hg7 hat7
      have bO7 : Boxed w7 w.heap.size 27 (.slice Av pre.length cv) := (bOY.alloc _).kept hg7 (Boxed.not_row (bOY.alloc (.cells #[.slice A5 sx.length c5] 22)) (by decide) (hrowY.alloc _))
      have m7 : w7.cell? ⟨w1.heap.size, 0, none⟩ = some (.slice (some ⟨gm, 0, none⟩) 8 c1) := Boxed.cell (t := 22) ((hmY.alloc _).kept hg7 (fun e => by have := (hrowY.lt w1.heap.size e.symm).1; omega))
      have v7 := bO7.cell
      have f7 := bO7.frozen
      have m8 : (w7.setCell ⟨w.heap.size, 0, none⟩ (.slice A7 (pre.length + 1) c7)).cell? ⟨w1.heap.size, 0, none⟩ = some (.slice (some ⟨gm, 0, none⟩) 8 c1) := by rw [World.cell?_setCell_other _ _ _ _ (by intro e; injection e with e; omega)]; exact m7
      refine hK.out _ _ m7 (fun hHeld => ?_)
      clear hK K
      try simp only [Act.put, List.setIfInBounds_toArray, List.set_cons_zero, List.set_cons_succ]
      refine wpAnyH_ready (rs := [8]) (by kernel_rfl) (by simp) (AllReadyH.cons rfl (fun K hK => ?_) (AllReadyH.nil))
      try simp only [List.getElem_toArray, List.getElem_cons_succ, List.getElem_cons_zero]
      go_simp
      refine hK.out _ _ m8 (fun hHeld => ?_)
      clear hK K
      try simp only [Act.put, List.setIfInBounds_toArray, List.set_cons_zero, List.set_cons_succ]
      refine wpAnyH_done (by kernel_rfl) ?_ _
      exact hfin _ _ _ _ _ _ hown5 hbY hown7 hg7
    ·
      try simp only [List.getElem_toArray, List.getElem_cons_succ, List.getElem_cons_zero]
      go_simp
      refine hK.out _ _ m4 (fun hHeld => ?_)
      clear hK K
      try simp only [Act.put, List.setIfInBounds_toArray, List.set_cons_zero, List.set_cons_succ]
      refine wpAnyH_ready (rs := [0, 5]) (by kernel_rfl) (by simp) (AllReadyH.cons rfl (fun K hK => ?_) (AllReadyH.cons rfl (fun K hK => ?_) (AllReadyH.nil)))
      ·
        try simp only [List.getElem_toArray, List.getElem_cons_succ, List.getElem_cons_zero]
        go_simp
        refine hK.out _ _ m4 (fun hHeld => ?_)
        clear hK K
        try simp only [Act.put, List.setIfInBounds_toArray, List.set_cons_zero, List.set_cons_succ]
        refine wpAnyH_ready (rs := [5]) (by kernel_rfl) (by simp) (AllReadyH.cons rfl (fun K hK => ?_) (AllReadyH.nil))
        try simp only [List.getElem_toArray, List.getElem_cons_succ, List.getElem_cons_zero]
        go_simp
        with_reducible refine hcat.mono ?_
        intro e Y hret
        obtain ⟨A5, c5, rfl, hown5, hb5, hx5⟩ := hret.is
        have hbY : Below W.heap.size W Y := hb4.trans (hb5.mono hb4.size)
        have hmY : Boxed Y w1.heap.size 22 (.slice (some ⟨gm, 0, none⟩) 8 c1) := (hbY.block _ hml).trans hm
        have bOY : Boxed Y w.heap.size 27 (.slice Av pre.length cv) := (hbY.block _ hwl).trans hv
        have mY := hmY.cell
        have vY := bOY.cell
        have m6 : (Y.alloc (.cells #[.slice A5 sx.length c5] 22)).cell? ⟨w1.heap.size, 0, none⟩ = some (.slice (some ⟨gm, 0, none⟩) 8 c1) := (hmY.alloc _).cell
        have v6 : (Y.alloc (.cells #[.slice A5 sx.length c5] 22)).cell? ⟨w.heap.size, 0, none⟩ = some (.slice Av pre.length cv) := (bOY.alloc _).cell
        have hrowY := kept_none (below_none hbY) hrow
        have hszY := hbY.size
        clear hret
        refine hK.out _ _ mY (fun hHeld => ?_)
        clear hK K
        try simp only [Act.put, List.setIfInBounds_toArray, List.set_cons_zero, List.set_cons_succ]
        refine wpAnyH_ready (rs := [6]) (by kernel_rfl) (by simp) (AllReadyH.cons rfl (fun K hK => ?_) (AllReadyH.nil))
        try simp only [List.getElem_toArray, List.getElem_cons_succ, List.getElem_cons_zero]
        go_simp
        refine hK.out _ _ m6 (fun hHeld => ?_)
        clear hK K
        try simp only [Act.put, List.setIfInBounds_toArray, List.set_cons_zero, List.set_cons_succ]
        refine wpAnyH_ready (rs := [7]) (by kernel_rfl) (by simp) (AllReadyH.cons rfl (fun K hK => ?_) (AllReadyH.nil))
        try simp only [List.getElem_toArray, List.getElem_cons_succ, List.getElem_cons_zero]
        refine step_append_y (by rfl) _ _ 27 27 (by rfl) W0.heap.size 22 i0 _ 24 Try.underlying27 Try.underlying27 hi hz0 hz1 hz2 rfl (.slice Av pre.length cv) pre.length L (by rfl) (hrowY.alloc _) (Y.heap.size + 1) (some ⟨Y.heap.size, 0, none⟩) 1 1 [.slice A5 sx.length c5] (by rfl) rfl (At.new Y [.slice A5 sx.length c5] 22 (0, 0)) (by simp [Value.oneCell']) (by unfold maxLen; omega) (by omega) (by rw [World.size_alloc]; omega) ?_
        intro A7 c7 w7 hown7 hg7 hat7
        have bO7 : Boxed w7 w.heap.size 27 (.slice Av pre.length cv) := (bOY.alloc _).kept hg7 (Boxed.not_row (bOY.alloc (.cells #[.slice A5 sx.length c5] 22)) (by decide) (hrowY.alloc _))
        have m7 : w7.cell? ⟨w1.heap.size, 0, none⟩ = some (.slice (some ⟨gm, 0, none⟩) 8 c1) := Boxed.cell (t := 22) ((hmY.alloc _).kept hg7 (fun e => by have := (hrowY.lt w1.heap.size e.symm).1; omega))
        have v7 := bO7.cell
        have f7 := bO7.frozen
        have m8 : (w7.setCell ⟨w.heap.size, 0, none⟩ (.slice A7 (pre.length + 1) c7)).cell? ⟨w1.heap.size, 0, none⟩ = some (.slice (some ⟨gm, 0, none⟩) 8 c1) := by rw [World.cell?_setCell_other _ _ _ _ (by intro e; injection e with e; omega)]; exact m7
        refine hK.out _ _ m7 (fun hHeld => ?_)
        clear hK K
        try simp only [Act.put, List.setIfInBounds_toArray, List.set_cons_zero, List.set_cons_succ]
        refine wpAnyH_ready (rs := [8]) (by kernel_rfl) (by simp) (AllReadyH.cons rfl (fun K hK => ?_) (AllReadyH.nil))
        try simp only [List.getElem_toArray, List.getElem_cons_succ, List.getElem_cons_zero]
        go_simp
        refine hK.out _ _ m8 (fun hHeld => ?_)
        clear hK K
        try simp only [Act.put, List.setIfInBounds_toArray, List.set_cons_zero, List.set_cons_succ]
        refine wpAnyH_done (by kernel_rfl) ?_ _
        exact hfin _ _ _ _ _ _ hown5 hbY hown7 hg7
      ·
        try simp only [List.getElem_toArray, List.getElem_cons_succ, List.getElem_cons_zero]
        go_simp
        with_reducible refine hcat.mono ?_
        intro e Y hret
        obtain ⟨A5, c5, rfl, hown5, hb5, hx5⟩ := hret.is
        have hbY : Below W.heap.size W Y := hb4.trans (hb5.mono hb4.size)
        have hmY : Boxed Y w1.heap.size 22 (.slice (some ⟨gm, 0, none⟩) 8 c1) := (hbY.block _ hml).trans hm
        have bOY : Boxed Y w.heap.size 27 (.slice Av pre.length cv) := (hbY.block _ hwl).trans hv
        have mY := hmY.cell
        have vY := bOY.cell
        have m6 : (Y.alloc (.cells #[.slice A5 sx.length c5] 22)).cell? ⟨w1.heap.size, 0, none⟩ = some (.slice (some ⟨gm, 0, none⟩) 8 c1) := (hmY.alloc _).cell
        have v6 : (Y.alloc (.cells #[.slice A5 sx.length c5] 22)).cell? ⟨w.heap.size, 0, none⟩ = some (.slice Av pre.length cv) := (bOY.alloc _).cell
        have hrowY := kept_none (below_none hbY) hrow
        have hszY := hbY.size
        clear hret
        refine hK.out _ _ mY (fun hHeld => ?_)
        clear hK K
        try simp only [Act.put, List.setIfInBounds_toArray, List.set_cons_zero, List.set_cons_succ]
        refine wpAnyH_ready (rs := [0, 6]) (by kernel_rfl) (by simp) (AllReadyH.cons rfl (fun K hK => ?_) (AllReadyH.cons rfl (fun K hK => ?_) (AllReadyH.nil)))
        ·
          try simp only [List.getElem_toArray, List.getElem_cons_succ, List.getElem_cons_zero]
          go_simp
          refine hK.out _ _ mY (fun hHeld => ?_)
          clear hK K
          try simp only [Act.put, List.setIfInBounds_toArray, List.set_cons_zero, List.set_cons_succ]
          refine wpAnyH_ready (rs := [6]) (by kernel_rfl) (by simp) (AllReadyH.cons rfl (fun K hK => ?_) (AllReadyH.nil))
          try simp only [List.getElem_toArray, List.getElem_cons_succ, List.getElem_cons_zero]
          go_simp
          refine hK.out _ _ m6 (fun hHeld => ?_)
          clear hK K
          try simp only [Act.put, List.setIfInBounds_toArray, List.set_cons_zero, List.set_cons_succ]
          refine wpAnyH_ready (rs := [7]) (by kernel_rfl) (by simp) (AllReadyH.cons rfl (fun K hK => ?_) (AllReadyH.nil))
          try simp only [List.getElem_toArray, List.getElem_cons_succ, List.getElem_cons_zero]
          refine step_append_y (by rfl) _ _ 27 27 (by rfl) W0.heap.size 22 i0 _ 24 Try.underlying27 Try.underlying27 hi hz0 hz1 hz2 rfl (.slice Av pre.length cv) pre.length L (by rfl) (hrowY.alloc _) (Y.heap.size + 1) (some ⟨Y.heap.size, 0, none⟩) 1 1 [.slice A5 sx.length c5] (by rfl) rfl (At.new Y [.slice A5 sx.length c5] 22 (0, 0)) (by simp [Value.oneCell']) (by unfold maxLen; omega) (by omega) (by rw [World.size_alloc]; omega) ?_
          intro A7 c7 w7 hown7 hg7 hat7
          have bO7 : Boxed w7 w.heap.size 27 (.slice Av pre.length cv) := (bOY.alloc _).kept hg7 (Boxed.not_row (bOY.alloc (.cells #[.slice A5 sx.length c5] 22)) (by decide) (hrowY.alloc _))
          have m7 : w7.cell? ⟨w1.heap.size, 0, none⟩ = some (.slice (some ⟨gm, 0, none⟩) 8 c1) := Boxed.cell (t := 22) ((hmY.alloc _).kept hg7 (fun e => by have := (hrowY.lt w1.heap.size e.symm).1; omega))
          have v7 := bO7.cell
          have f7 := bO7.frozen
          have m8 : (w7.setCell ⟨w.heap.size, 0, none⟩ (.slice A7 (pre.length + 1) c7)).cell? ⟨w1.heap.size, 0, none⟩ = some (.slice (some ⟨gm, 0, none⟩) 8 c1) := by rw [World.cell?_setCell_other _ _ _ _ (by intro e; injection e with e; omega)]; exact m7
          refine hK.out _ _ m7 (fun hHeld => ?_)
          clear hK K
          try simp only [Act.put, List.setIfInBounds_toArray, List.set_cons_zero, List.set_cons_succ]
          refine wpAnyH_ready (rs := [8]) (by kernel_rfl) (by simp) (AllReadyH.cons rfl (fun K hK => ?_) (AllReadyH.nil))
          try simp only [List.getElem_toArray, List.getElem_cons_succ, List.getElem_cons_zero]
          go_simp
          refine hK.out _ _ m8 (fun hHeld => ?_)
          clear hK K
          try simp only [Act.put, List.setIfInBounds_toArray, List.set_cons_zero, List.set_cons_succ]
          refine wpAnyH_done (by kernel_rfl) ?_ _
          exact hfin _ _ _ _ _ _ hown5 hbY hown7 hg7
        ·
          try simp only [List.getElem_toArray, List.getElem_cons_succ, List.getElem_cons_zero]
          go_simp
          refine hK.out _ _ m6 (fun hHeld => ?_)
          clear hK K
          try simp only [Act.put, List.setIfInBounds_toArray, List.set_cons_zero, List.set_cons_succ]
          refine wpAnyH_ready (rs := [0]) (by kernel_rfl) (by simp) (AllReadyH.cons rfl (fun K hK => ?_) (AllReadyH.nil))
          try simp only [List.getElem_toArray, List.getElem_cons_succ, List.getElem_cons_zero]
          go_simp
          refine hK.out _ _ m6 (fun hHeld => ?_)
          clear hK K
          try simp only [Act.put, List.setIfInBounds_toArray, List.set_cons_zero, List.set_cons_succ]
          refine wpAnyH_ready (rs := [7]) (by kernel_rfl) (by simp) (AllReadyH.cons rfl (fun K hK => ?_) (AllReadyH.nil))
          try simp only [List.getElem_toArray, List.getElem_cons_succ, List.getElem_cons_zero]
          refine step_append_y (by rfl) _ _ 27 27 (by rfl) W0.heap.size 22 i0 _ 24 Try.underlying27 Try.underlying27 hi hz0 hz1 hz2 rfl (.slice Av pre.length cv) pre.length L (by rfl) (hrowY.alloc _) (Y.heap.size + 1) (some ⟨Y.heap.size, 0, none⟩) 1 1 [.slice A5 sx.length c5] (by rfl) rfl (At.new Y [.slice A5 sx.length c5] 22 (0, 0)) (by simp [Value.oneCell']) (by unfold maxLen; omega) (by omega) (by rw [World.size_alloc]; omega) ?_
          intro A7 c7 w7 hown7 hg7 hat7
          have bO7 : Boxed w7 w.heap.size 27 (.slice Av pre.length cv) := (bOY.alloc _).kept hg7 (Boxed.not_row (bOY.alloc (.cells #[.slice A5 sx.length c5] 22)) (by decide) (hrowY.alloc _))
          have m7 : w7.cell? ⟨w1.heap.size, 0, none⟩ = some (.slice (some ⟨gm, 0, none⟩) 8 c1) := Boxed.cell (t := 22) ((hmY.alloc _).kept hg7 (fun e => by have := (hrowY.lt w1.heap.size e.symm).1; omega))
          have v7 := bO7.cell
          have f7 := bO7.frozen
          have m8 : (w7.setCell ⟨w.heap.size, 0, none⟩ (.slice A7 (pre.length + 1) c7)).cell? ⟨w1.heap.size, 0, none⟩ = some (.slice (some ⟨gm, 0, none⟩) 8 c1) := by rw [World.cell?_setCell_other _ _ _ _ (by intro e; injection e with e; omega)]; exact m7
          refine hK.out _ _ m7 (fun hHeld => ?_)
          clear hK K
          try simp only [Act.put, List.setIfInBounds_toArray, List.set_cons_zero, List.set_cons_succ]
          refine wpAnyH_ready (rs := [8]) (by kernel_rfl) (by simp) (AllReadyH.cons rfl (fun K hK => ?_) (AllReadyH.nil))
          try simp only [List.getElem_toArray, List.getElem_cons_succ, List.getElem_cons_zero]
          go_simp
          refine hK.out _ _ m8 (fun hHeld => ?_)
          clear hK K
          try simp only [Act.put, List.setIfInBounds_toArray, List.set_cons_zero, List.set_cons_succ]
          refine wpAnyH_done (by kernel_rfl) ?_ _
          exact hfin _ _ _ _ _ _ hown5 hbY hown7 hg7
  case done =>
    rintro D ys W hD rfl ⟨L, v, hv, hrow, hr, hO⟩ hK
    have hc := hv.cell
    have hch : chunks zs = 4 := by unfold chunks; omega
    have hso : sealOf zs st = (List.range (chunks zs)).map fun k => putF 8 st ++ chunkOf zs k ++ putF 8 st := by unfold sealOf; rw [if_pos hlen, hch]
    obtain ⟨Av, cv, rfl, -, -⟩ := own_form hrow
    gi_wp2
    refine ⟨by simp, .inl ⟨_, _, rfl, run_takeDeferred hK, ?_⟩⟩
    refine ⟨_, results_tmp rfl _ _ _, Av, cv, L, ?_, ?_, ?_, ?_⟩
    · rw [hso]; simp [hch]
    · have := ownsRow_putObj hrow (.deferred none) hK rfl
      rw [hso]
      simp only [List.length_map]
      exact own_base hB0.size this
    · rw [hso]
      exact hr.imp' fun v l h => own_base hB0.size (ownsRow_putObj h _ hK rfl)
    · have hBW : Below w.heap.size w W := hB0.trans (hO.below hB0.size (fun b q => by omega))
      exact hBW.trans (belowK_b (w := w) (Nat.le_refl _) W D _ _ (by have := hB0.size; omega) hK rfl rfl)
  case stop =>
    rintro D c pre W _ _ h _
    exact h.elim
set_option maxHeartbeats 4000000 in
theorem Seal_nil (n : Nat) (A : Option Addr) (zs : List Nat) (c : Nat) (hcap : zs.length ≤ c) (hlen : zs.length ≠ 448) (st : Nat) (hst : st < 18446744073709551616) (w : World) :
    CallsIn Fence.wide n Try.prog 10 #[.slice A zs.length c, .int .u64 st] w (RetRows (sealOf zs st) w) := by
  have ht : ((zs.length : Int) != 448) = true := by rw [bne_iff_ne]; omega
  refine callsIn_of_wp_marks Try.func10 rfl trivial ?_ rfl
  simp only [Try.ntmps10, List.size_toArray, List.length_cons, List.length_nil, Nat.reduceAdd, Nat.reduceSub, Array.replicate_succ, Array.replicate_zero, List.push_toArray, List.append_toArray, List.nil_append, List.cons_append]
  gi_wp2
  have hs0 : sealOf zs st = [] := if_neg hlen
  rw [hs0]
  exact ⟨_, results_tmp rfl _ _ _, none, 0, [], rfl, World.ownsRow_nil _ _ _ _, Rows.nil _ _, Below.refl _ _⟩
theorem Seal_any (A : Option Addr) (zs : List Nat) (c : Nat) (hcap : zs.length ≤ c) (st : Nat) (hst : st < 18446744073709551616) (w : World) (hat : Bytes w w.heap.size A zs) :
    Calls Try.prog 10 #[.slice A zs.length c, .int .u64 st] w (RetRows (sealOf zs st) w) := by
  by_cases h : zs.length = 448
  · exact (callsIn_wide (n := 3)).1 (Seal_in 3 (by omega) A zs c hcap h st hst w hat)
  · exact (callsIn_wide (n := 3)).1 (Seal_nil 3 A zs c hcap h st hst w)
end Go.Proofs.Ytkmfacmigonbcaa
