/- strip.Lay: what it lays. Conditions: the stream's length ≤ 100000. -/
import Derived.Test.YtkganajbilnanaaWChunk
import Derived.Test.YtkganajbilnanaaWBase
namespace Go.Proofs.Ytkganajbilnanaa
open Go.RowKit Go.Shelf
attribute [local go_sem] Oper.semAt_some
set_option linter.unusedVariables false
set_option linter.unusedSimpArgs false

theorem wpListIn_make_row {F : Fence} {n : Nat} {P : Program} (w : World) {ops : Array Oper} {rest : List Oper} {o : Oper} {a : Act} {Q : Exit → Act → World → Prop}
    (hg : o.guard = none) (l c : Operand) (t : TypeId) (hop : o.op = Op.makeSlice t l c)
    (base : Nat) (e : TypeId) (i : TypeInfo) (z : Value) (h1 : P.underlying t = some (.slice e)) (h2 : P.info? e = some i) (h3 : i.zero = some z) (h4 : i.size = 1) (hzz : z.cells = #[z])
    (kl kc : IntKind) (L C : Int) (m : Nat) (hl : a.eval l = .int kl L) (hc : a.eval c = .int kc C) (hL : L = (m : Int)) (hC : C = (m : Int)) (b2 : i.bytes * m ≤ 281474976710656) (b3 : m ≤ maxLen) (b4 : base ≤ w.heap.size)
    (hK : ∀ w', w'.ownsRow base e 1 (.slice (some ⟨w.heap.size, 0, none⟩) m m) m (List.replicate m z) → w.grownBy w' none → wpListIn F n P ops Q rest (a.put o.dst (.slice (some ⟨w.heap.size, 0, none⟩) m m)) w') :
    wpListIn F n P ops Q (o :: rest) a w := by
  refine wpListIn_plain hg fun K hK' => ?_
  obtain ⟨w', hrun, r1, r2⟩ := run_make_full (P := P) w base t e i z 1 h1 h2 h3 h4 kl kc m b2 b3 b4
  rw [Nat.mul_one, hzz, toList_madeCells_one] at r1
  subst hL
  subst hC
  unfold Oper.wpIn
  refine ⟨?_, ?_⟩
  · simp [Oper.about, hop]
  · rw [Oper.semAt_plain F _ _ (by rw [hop]; intro c hc'; cases hc')]
    simp [execOp, hop, hl, hc, hrun, Result.andThen]
    exact hK' _ _ (hK w' r1 r2)

/-- A sector with these bytes in front. -/
def sectorOf (l : List Nat) : List Nat := l ++ List.replicate (127 - l.length) 0 ++ [l.length]
theorem sectorOf_length {l : List Nat} (h : l.length ≤ 127) : (sectorOf l).length = 128 := by simp [sectorOf]; omega
theorem sectorOf_small {l : List Nat} (h : l.length ≤ 127) (hs : Small l) : Small (sectorOf l) := fun x hx => by
  simp only [sectorOf, List.mem_append, List.mem_singleton, List.mem_replicate] at hx
  rcases hx with (hx | ⟨_, rfl⟩) | rfl
  · exact hs x hx
  · omega
  · omega
def layOf (l : List Nat) : List (List Nat) := (List.range (chunks l)).map fun k => sectorOf (chunkOf l k)
theorem sector_set {l : List Nat} (h : l.length ≤ 127) : (l.map byteV ++ (List.replicate 128 (Value.int .u8 0)).drop l.length).set 127 (byteV l.length) = (sectorOf l).map byteV := by
  rw [List.drop_replicate, show 128 - l.length = (127 - l.length) + 1 by omega, List.replicate_succ', ← List.append_assoc]
  rw [List.set_append_right _ _ (by simp; omega)]
  simp only [List.length_append, List.length_map, List.length_replicate, show 127 - (l.length + (127 - l.length)) = 0 by omega, List.set_cons_zero, sectorOf, List.map_append, List.map_replicate, List.map_cons, List.map_nil]
  rfl

theorem slice_info : (Try.prog.info? 26).map (fun i => (i.zero, i.size, i.bytes)) = some (some (.slice none 0 0), 1, 24) := by kernel_rfl

set_option maxRecDepth 100000 in
set_option maxHeartbeats 2000000 in
theorem Lay_in (n : Nat) (hn : 3 ≤ n) (A : Option Addr) (zs : List Nat) (c : Nat) (B0 : Nat) (hcap : zs.length ≤ c) (hlen : zs.length ≤ 100000) (w : World) (hB0 : B0 ≤ w.heap.size) (hat : Bytes w B0 A zs) :
    CallsIn Fence.wide n Try.prog 43 #[.slice A zs.length c] w fun e W' => ∃ v L, e = .returned v ∧ W'.ownsRow w.heap.size 26 1 v (chunks zs) L ∧ Rows W' w.heap.size L (layOf zs) ∧ Below w.heap.size w W' := by
  have h1 : 1 ≤ n := by omega
  obtain ⟨i0, hi, hz0, hz1, hz2⟩ := info_parts slice_info
  obtain ⟨i1, hi1, hy0, hy1, hy2⟩ := info_parts u8_info
  have hAA : zs ≠ [] → ∃ b o, A = some ⟨b, o, none⟩ := fun hne => by
    obtain ⟨b, o, e, _⟩ := hat.at_ (k := 0) (List.length_pos_iff.2 hne)
    exact ⟨b, o, e⟩
  refine callsIn_of_wp_marks Try.func43 rfl trivial ?_ rfl
  simp only [Try.ntmps43, List.size_toArray, List.length_cons, List.length_nil, Nat.reduceAdd, Nat.reduceSub, Array.replicate_succ, Array.replicate_zero, List.push_toArray, List.append_toArray, List.nil_append, List.cons_append]
  gi_wp2_with (refine ⟨trivial, ?_⟩; gi_at_call 65; refine (chunk_in (n - 1) _ _ _ _).mono ?_; rintro e w' ⟨rfl, rfl⟩)
  have bO := Boxed.new w 88 (.slice none 0 0)
  have bS := (Boxed.new (w.alloc (.cells #[.slice none 0 0] 88)) 26 (.slice A zs.length c)).alloc (.cells #[.int .i64 127] 3)
  have bN := Boxed.new ((w.alloc (.cells #[.slice none 0 0] 88)).alloc (.cells #[.slice A zs.length c] 26)) 3 (.int .i64 127)
  have hB : Below w.heap.size w (((w.alloc (.cells #[.slice none 0 0] 88)).alloc (.cells #[.slice A zs.length c] 26)).alloc (.cells #[.int .i64 127] 3)) := (((Below.refl _ w).alloc (Nat.le_refl _) _).alloc (by simp) _).alloc (by simp; omega) _
  obtain ⟨W0, hW0⟩ : ∃ W0, (((w.alloc (.cells #[.slice none 0 0] 88)).alloc (.cells #[.slice A zs.length c] 26)).alloc (.cells #[.int .i64 127] 3)) = W0 := ⟨_, rfl⟩
  have hsz : W0.heap.size = w.heap.size + 3 := by rw [← hW0]; simp
  have bO := ((Boxed.new w 88 (.slice none 0 0)).alloc (.cells #[.slice A zs.length c] 26)).alloc (.cells #[.int .i64 127] 3)
  simp only [World.size_alloc] at bS bN
  rw [hW0] at bO bS bN hB
  rw [show w.heap.size + 1 + 1 = w.heap.size + 2 from rfl] at bN
  rw [hW0]
  try simp only [World.size_alloc]
  try rw [show w.heap.size + 1 + 1 = w.heap.size + 2 from rfl]
  refine wpIn_rangeFunc_ownG rfl h1 (gf := 82) (lb := #[.pointer (some ⟨w.heap.size + 1, 0, none⟩), .pointer (some ⟨w.heap.size + 2, 0, none⟩)]) rfl trivial (enters_of Try.func82 (by kernel_rfl) rfl)
    (chunk_stops (n - 1) (by omega) (w.heap.size + 1) (w.heap.size + 2) A zs c hcap (by omega) hAA W0 (by omega) (by omega) bS.cell bN.cell) Boxes2.t (Boxes2.b (by omega) (by omega)) (Below.refl _ _) (fun _ => rfl)
    (fun pre W => (∃ L, W0.heap.size ≤ W.heap.size ∧ Rows W W0.heap.size L (pre.map fun k => sectorOf (chunkOf zs k)) ∧ ∃ v, Boxed W w.heap.size 88 v ∧ W.ownsRow W0.heap.size 26 1 v pre.length L) ∧ Below w.heap.size w W)
    (fun _ _ _ => False) ?own (fun _ _ _ _ _ hs _ _ => hs)
    ⟨⟨[], Nat.le_refl _, Rows.nil _ _, _, bO, World.ownsRow_nil _ _ _ _⟩, hB⟩
    (fun x => { tmps := #[.slice A zs.length c, undef, .slice none 0 0, .pointer (some ⟨w.heap.size, 0, none⟩), chunkV A zs x, undef, .slice A zs.length c, .func (.func 82) #[] #[.pointer (some ⟨w.heap.size + 1, 0, none⟩), .pointer (some ⟨w.heap.size + 2, 0, none⟩)], chunkV A zs x, undef, undef, undef, undef, undef, undef, undef, undef, undef, undef, undef, undef], defers := [] }) ?assign ?body ?done ?stop
  case own =>
    refine OwnFrom.and (Own.from ?_ _) (ownFrom_below (Nat.le_refl _) (by omega))
    rintro pre X Y row ⟨L, hw0, hr, v, hv, ho⟩ hg hrow
    refine ⟨L, Nat.le_trans hw0 hg.size, hr.imp fun v l h => h.kept hg (own_notcells h hrow), v, hv.kept hg ?_, ho.kept hg (own_notcells ho hrow)⟩
    intro e
    obtain ⟨o, ho, hc⟩ := hrow _ e.symm
    rw [show X.heap[w.heap.size]? = _ from hv] at ho
    cases ho
    cases hc
  case assign =>
    intro l x W K hK
    gi_wp2
    exact hK
  case body =>
    rintro l pre x W ⟨⟨L, hw0, hr, v, hv, hrow⟩, hBW⟩ hlt
    have hc := hv.cell
    obtain ⟨q, hq⟩ : ∃ q, (chunkOf zs x).length = q := ⟨_, rfl⟩
    have hq127 : q ≤ 127 := by rw [← hq, chunkOf_length]; omega
    have hch : Bytes W B0 (shift A (127 * x)) (chunkOf zs x) := ((hat.drop (127 * x)).take 127).below (hBW.mono hB0)
    have hpl : pre.length < 1000 := by have : chunks zs = (zs.length + 126) / 127 := rfl; omega
    have hsi : (Try.prog.info? 5).map (·.size) = some 1 := by rw [hi1]; simp [hy1]
    have hqm : (q : Int) % 256 = (q : Int) := by omega
    simp only [chunkV, hq]
    gi_wp2_with (first
      | (gi_at_make; refine wpListIn_make_row _ rfl _ _ 26 rfl W0.heap.size 5 i1 (.int .u8 0) Try.underlying26 hi1 hy0 hy1 rfl .i64 .i64 _ _ 128 rfl rfl rfl rfl (by rw [hy2]; decide) (by decide) hw0 ?_; intro w1 hown1 hg1)
      | (have hz := hown1; refine wpListIn_copy_row rfl _ _ 26 26 rfl 5 Try.underlying26 hsi W0.heap.size W.heap.size 128 128 _ rfl hown1 B0 (shift A (127 * x)) q q ((chunkOf zs x).map byteV) rfl (by simp [hq]) (hch.below ((Below.refl _ W).grown hg1 (by have := hBW.size; omega) (by simp))).1 (by omega) (bytes_oneCell _) ?_; clear hz; intro w2 hown2 hg2; have hG2 : W.grownBy w2 none := ⟨hg2.os.trans hg1.os, hg2.tape.trans hg1.tape, hg2.output.trans hg1.output, Nat.le_trans hg1.size hg2.size, fun k hk _ => (hg2.block k (Nat.lt_of_lt_of_le hk hg1.size) (by simp; omega)).trans (hg1.block k hk (by simp))⟩; clear hown1 hg1 hg2
         obtain ⟨v0, hv0⟩ : ∃ v0, w2.cell? ⟨W.heap.size, 127, none⟩ = some v0 := ⟨_, (hown2.cellAt 127 (by omega)).trans (List.getElem?_eq_getElem (by rw [hown2.1]; omega))⟩
         have hf2 := hown2.frozenAt 127
         have hst := hown2.stored 127 (Value.int .u8 (q : Int))
         have hG3 : W.grownBy (w2.setCell ⟨W.heap.size, 127, none⟩ (Value.int .u8 (q : Int))) none := ⟨hst.2.os.trans hG2.os, hst.2.tape.trans hG2.tape, hst.2.output.trans hG2.output, Nat.le_trans hG2.size hst.2.size, fun k hk _ => (hst.2.block k (Nat.lt_of_lt_of_le hk hG2.size) (by simp; omega)).trans (hG2.block k hk (by simp))⟩
         have hv3 := hv.kept hG3 (by simp)
         have hc3 := hv3.cell
         have hrow3 := hrow.kept hG3 (by cases h : v.ownBlock <;> simp)
         have hs3 := Lib.hid hst.1
         clear hst hown2)
      | (gi_at_builtin
         refine wpListIn_append_own _ rfl _ _ 88 rfl W0.heap.size 26 i0 (.slice none 0 0) 1 24 Try.underlying88 hi hz0 hz1 hz2 rfl (by decide) _ _ _ rfl (hrow3.alloc _) ⟨w2.heap.size, 0, none⟩ 1 1 [.slice (some ⟨W.heap.size, 0, none⟩) 128 128] rfl rfl (fun j u h => by simpa using cell_one_new (w2.setCell ⟨W.heap.size, 127, none⟩ (Value.int .u8 (q : Int))) _ _ j u h) (by simp [Value.oneCell']) (by unfold maxLen; omega) (by omega) (by have := hG3.size; rw [World.size_alloc]; omega) ?_
         intro v' w4 hown4 hgrow _
         obtain ⟨g', cap', rfl⟩ := ownsRow_succ hown4
         obtain ⟨hv1, hv2, hr2, hk2, hb2⟩ := hv3.appended (by decide) (own_base (by omega) hrow3) (Nat.le_trans hBW.size hG3.size) (Nat.le_refl _) (own_base (by omega) hown4) hgrow
         have hc1 := hv1.cell
         have hf1 := hv1.frozen
         have hg4 := Lib.hid hgrow
         have ho4 := Lib.hid hown4))
    replace hg4 := hg4.out
    replace ho4 := ho4.out
    replace hs3 := hs3.out
    have hgs := grownBy_setCell' w4 w.heap.size (.slice (some ⟨g', 0, none⟩) (pre.length + 1) cap')
    have hlt5 := hrow3.lt
    have hag : (w2.setCell ⟨W.heap.size, 127, none⟩ (.int .u8 (q : Int))).grownBy ((w2.setCell ⟨W.heap.size, 127, none⟩ (.int .u8 (q : Int))).alloc (.cells #[.slice (some ⟨W.heap.size, 0, none⟩) 128 128] 26)) none := World.grownBy_alloc _ _ _
    have k5 : ∀ (u : Value) (m : List Nat), (w2.setCell ⟨W.heap.size, 127, none⟩ (.int .u8 (q : Int))).ownsRow W0.heap.size 5 1 u m.length (m.map byteV) → (w4.setCell ⟨w.heap.size, 0, none⟩ (.slice (some ⟨g', 0, none⟩) (pre.length + 1) cap')).ownsRow W0.heap.size 5 1 u m.length (m.map byteV) := fun u m hu =>
      have h1 := hu.kept hag (by cases h : u.ownBlock <;> simp)
      have h2 := h1.kept hg4 (own_apart (by decide) hu hrow3)
      h2.kept hgs (own_block (by decide) h2 hv1)
    have kb : ∀ b, b = w.heap.size + 1 ∨ b = w.heap.size + 2 → (w4.setCell ⟨w.heap.size, 0, none⟩ (.slice (some ⟨g', 0, none⟩) (pre.length + 1) cap')).heap[b]? = W.heap[b]? := fun b hb => by
      have hbW : b < W.heap.size := by omega
      have s3 := hG3.size
      have s4 := hg4.size
      rw [World.size_alloc] at s4
      rw [hgs.block b (by omega) (by simp; omega), hg4.block b (by rw [World.size_alloc]; omega) (fun e => by have := (hlt5 b e.symm).1; omega), hag.block b (by omega) (by simp), hG3.block b hbW (by simp)]
    refine ⟨((KeepsOthers.of_grownBy hG3 (by simp)).from _).trans (hk2.from _), ⟨kb _ (.inl rfl), kb _ (.inr rfl)⟩, ⟨L ++ [.slice (some ⟨W.heap.size, 0, none⟩) 128 128], ?_, ?_, _, hv2, ?_⟩, (hBW.trans ((Below.refl _ W).grown hG3 hBW.size (by simp))).trans hb2⟩
    · exact Nat.le_trans hw0 (Nat.le_trans hG3.size hk2.size)
    · rw [List.map_append, List.map_singleton]
      refine ((hr.grown hG3).imp k5).snoc ⟨⟨_, _, by rw [sectorOf_length (by omega)]⟩, k5 _ _ ?_, sectorOf_small (by omega) hch.2⟩
      rw [← sector_set (by omega), sectorOf_length (by omega), hq]
      exact hs3
    · rw [List.length_append]
      exact ho4.kept hgs (own_block (by decide) ho4 hv1)
  case done =>
    rintro D ys W hD rfl ⟨⟨L, hw0, hr, v, hv, hrow⟩, hBW⟩ hK
    have hc := hv.cell
    gi_wp2
    refine ⟨by simp, .inl ⟨_, _, rfl, run_takeDeferred hK, ?_⟩⟩
    refine ⟨_, results_tmp rfl _ _ _, v, L, rfl, ?_, hr.imp' fun v l h => own_base (by omega) (ownsRow_putObj h _ hK rfl), hBW.trans (belowK_b (w := w) (Nat.le_refl _) W D _ _ (by omega) hK rfl rfl)⟩
    have := ownsRow_putObj hrow (.deferred none) hK rfl
    rw [List.length_range] at this
    exact own_base (by omega) this
  case stop =>
    rintro D c pre W _ _ h _
    exact h.elim
theorem lay_any (A : Option Addr) (zs : List Nat) (c : Nat) (B0 : Nat) (hcap : zs.length ≤ c) (hlen : zs.length ≤ 100000) (w : World) (hB0 : B0 ≤ w.heap.size) (hat : Bytes w B0 A zs) :
    Calls Try.prog 43 #[.slice A zs.length c] w fun e W' => ∃ v L, e = .returned v ∧ W'.ownsRow w.heap.size 26 1 v (chunks zs) L ∧ Rows W' w.heap.size L (layOf zs) ∧ Below w.heap.size w W' :=
  (callsIn_wide (n := 3)).1 (Lay_in 3 (Nat.le_refl _) A zs c B0 hcap hlen w hB0 hat)
end Go.Proofs.Ytkganajbilnanaa


/- The contracts of both Reads. Conditions: up to 1100 sectors. -/
namespace Go.Proofs.Ytkganajbilnanaa
open Go.ChangeShapes Go.WideShapes Go.ChangeAt Go.RowKit
set_option linter.unusedVariables false
set_option linter.unusedSimpArgs false
set_option maxRecDepth 20000

/-- a sector's last byte -/
def last (s : List Nat) : Nat := s[127]?.getD 0
/-- What is read of sectors, behind what has been read. -/
def readL : List (List Nat) → List Nat
  | [] => []
  | s :: ss => if s.length ≠ 128 then [] else if 127 < last s then [] else if last s < 127 then s.take (last s) else s.take (last s) ++ readL ss
theorem readL_length (ls : List (List Nat)) : (readL ls).length ≤ 127 * ls.length := by
  induction ls with
  | nil => simp [readL]
  | cons s ss ih =>
    simp only [readL]
    repeat' split
    all_goals simp
    all_goals omega
theorem readL_small : ∀ (ls : List (List Nat)), (∀ l ∈ ls, Small l) → Small (readL ls) := fun ls h => by
  induction ls with
  | nil => exact fun x hx => by cases hx
  | cons s ss ih =>
    simp only [readL]
    have hs : Small (s.take (last s)) := fun x hx => h s (by simp) x (List.mem_of_mem_take hx)
    repeat' split
    · exact fun x hx => by cases hx
    · exact fun x hx => by cases hx
    · exact hs
    · exact small_append hs (ih fun l hl => h l (by simp [hl]))
/-- one round -/
theorem readL_drop {ls : List (List Nat)} {k : Nat} (hk : k < ls.length) : readL (ls.drop k) = if ls[k].length ≠ 128 then [] else if 127 < last ls[k] then [] else if last ls[k] < 127 then ls[k].take (last ls[k]) else ls[k].take (last ls[k]) ++ readL (ls.drop (k + 1)) := by
  rw [List.drop_eq_getElem_cons hk]
  rfl

set_option maxHeartbeats 4000000 in
theorem stread_any (A : Option Addr) (c : Nat) (L : List Value) (ls : List (List Nat)) (B : Nat) (w : World) (h1 : At w B A L) (hr : Reads w B L ls) (hB : B ≤ w.heap.size) (hn : ls.length ≤ 1100) :
    Calls Try.prog 40 #[.slice A ls.length c] w (RetBytes 5 (readL ls) w) := by
  obtain ⟨i0, hi0, hz0, hz1, hz2⟩ := info_parts u8_info
  have hsm := readL_small ls (fun l hl => by
    obtain ⟨j, hj, rfl⟩ := List.mem_iff_getElem.1 hl
    obtain ⟨A1, c1, _, _, b1⟩ := hr.2 j _ (List.getElem?_eq_getElem hj)
    exact b1.2)
  have fin : ∀ (l : List Nat), readL ls = l → ∀ (A0 : Option Addr) (c0 : Nat) {w' : World}, w'.ownsRow w.heap.size 5 1 (.slice A0 l.length c0) l.length (l.map byteV) → Below w.heap.size w w' → RetBytes 5 (readL ls) w (.returned (.slice A0 l.length c0)) w' := fun l e A0 c0 w' ho hb => by
    rw [e]
    exact ⟨A0, c0, rfl, ho, hb, by rw [← e]; exact hsm⟩
  go_enter Try.func40, Try.ntmps40
  go_wp2_with fail
  go_loopw [3, 9] (fun v i wr => ∃ (k : Nat) (l : List Nat), k ≤ ls.length ∧ i = .int .i64 k ∧ readL ls = l ++ readL (ls.drop k) ∧ l.length ≤ 127 * k ∧ wr.ownsRow w.heap.size 5 1 v l.length (l.map byteV) ∧ Below w.heap.size w wr) (fun _ i _ => ls.length - (intOf i).toNat)
  case atStart => exact ⟨0, [], by omega, rfl, rfl, by simp, World.ownsRow_nil _ _ _ _, Below.refl _ _⟩
  case round =>
    obtain ⟨k, l, hk, rfl, heq, hll, hown, hb⟩ := hrel
    obtain ⟨A0, c0, rfl, -, -⟩ := own_form hown
    rcases Nat.lt_or_ge k ls.length with hlt | hge
    · have ht : decide ((k : Int) < (ls.length : Int)) = true := by rw [decide_eq_true_iff]; omega
      obtain ⟨A1, c1, e1, hc1, b1⟩ := hr.2 k _ (List.getElem?_eq_getElem hlt)
      obtain ⟨b, o, rfl, hbB, q1⟩ := h1 k (by rw [hr.1]; exact hlt)
      rw [← List.getElem?_eq_getElem, e1] at q1
      have p1 := ((hb.mono hB).cell (p := ⟨b, o + k, none⟩) hbB).trans q1
      have s1 := b1.below (hb.mono hB)
      rw [readL_drop hlt] at heq
      clear q1 e1 h1 hr b1
      generalize hss : ls[k] = s at *
      by_cases hs : s.length = 128
      · have ht2 : ((s.length : Int) != 128) = false := by rw [hs]; rfl
        obtain ⟨b2, o2, rfl, hb2, hc2, hy⟩ := s1.at_ (k := 127) (by omega)
        have hlast : last s = s[127] := by unfold last; rw [List.getElem?_eq_getElem (by omega)]; rfl
        generalize s[127] = y at *
        rw [hlast] at heq
        rw [if_neg (by simp [hs])] at heq
        have hs1 : (s.length : Int) = 128 := by omega
        by_cases hy1 : 127 < y
        · have ht3 : decide ((127 : Int) < (y : Int)) = true := by rw [decide_eq_true_iff]; omega
          rw [if_pos hy1, List.append_nil] at heq
          have HE := Lib.hid heq
          clear heq hlast s1 hsm
          go_wp2
          go_ret
          exact fin _ HE.out A0 c0 hown hb
        · have ht3 : decide ((127 : Int) < (y : Int)) = false := by rw [decide_eq_false_iff_not]; omega
          rw [if_neg hy1] at heq
          have hy2 : y ≤ c1 := by omega
          have hlen : (l ++ s.take y).length = l.length + y := by simp; omega
          have hlen2 : (s.take y).length = y := by simp; omega
          have hT := (s1.take y).1
          have HE := Lib.hid heq
          have HL := Lib.hid hlen
          clear heq hlast s1 hsm hlen
          by_cases hy3 : y < 127
          · have ht4 : decide ((y : Int) < 127) = true := by rw [decide_eq_true_iff]; omega
            go_wp2_with (at_builtin; refine wpList_append_at rfl _ _ 26 rfl w.heap.size 5 i0 _ 1 Try.underlying26 hi0 hz0 hz1 hz2 rfl (.slice A0 l.length c0) l.length (l.map byteV) rfl hown B (some ⟨b2, o2, none⟩) y c1 ((s.take y).map byteV) rfl (by rw [List.length_map]; exact hlen2) hT (bytes_oneCell _) (by unfold maxLen; omega) (by omega) hb.size ?_; intro A3 c3 w3 hown3 hg3 hat3)
            go_ret
            have hE := HE.out
            rw [if_pos hy3] at hE
            rw [← HL.out] at hown3
            rw [← List.map_append] at hown3
            have := fin _ hE A3 c3 hown3 (below_own hb hg3 hown (Nat.le_refl _) hb.size)
            rwa [HL.out] at this
          · have ht4 : decide ((y : Int) < 127) = false := by rw [decide_eq_false_iff_not]; omega
            go_wp2_with (at_builtin; refine wpList_append_at rfl _ _ 26 rfl w.heap.size 5 i0 _ 1 Try.underlying26 hi0 hz0 hz1 hz2 rfl (.slice A0 l.length c0) l.length (l.map byteV) rfl hown B (some ⟨b2, o2, none⟩) y c1 ((s.take y).map byteV) rfl (by rw [List.length_map]; exact hlen2) hT (bytes_oneCell _) (by unfold maxLen; omega) (by omega) hb.size ?_; intro A3 c3 w3 hown3 hg3 hat3)
            go_roundw
            case rel =>
              have hE := HE.out
              rw [if_neg hy3, ← List.append_assoc] at hE
              refine ⟨k + 1, l ++ s.take y, by omega, by go_num, hE, by rw [HL.out]; omega, ?_, below_own hb hg3 hown (Nat.le_refl _) hb.size⟩
              rw [HL.out, List.map_append]
              exact hown3
            case measure => simp [intOf]; omega
      · have ht2 : ((s.length : Int) != 128) = true := by simp; omega
        rw [if_pos hs, List.append_nil] at heq
        have HE := Lib.hid heq
        clear heq s1 hsm
        go_wp2
        go_ret
        exact fin _ HE.out A0 c0 hown hb
    · obtain rfl : k = ls.length := by omega
      have ht : decide ((ls.length : Int) < (ls.length : Int)) = false := by rw [decide_eq_false_iff_not]; omega
      rw [List.drop_length, readL, List.append_nil] at heq
      clear h1 hr
      go_wp2
      go_ret
      exact fin _ heq A0 c0 hown hb
end Go.Proofs.Ytkganajbilnanaa


/- Plain laws of chapter 7's streams: what is laid is read. No program in sight. -/
namespace Go.Proofs.Ytkganajbilnanaa
set_option linter.unusedVariables false
set_option linter.unusedSimpArgs false

theorem layOf_nil : layOf [] = [] := rfl
theorem layOf_cons {l : List Nat} (h : l ≠ []) : layOf l = sectorOf (l.take 127) :: layOf (l.drop 127) := by
  have hp : 0 < l.length := List.length_pos_iff.2 h
  have hc : chunks l = chunks (l.drop 127) + 1 := by simp only [chunks, List.length_drop]; omega
  unfold layOf
  rw [hc, List.range_succ_eq_map, List.map_cons, List.map_map]
  congr 1
  refine List.map_congr_left fun k _ => ?_
  simp only [Function.comp, chunkOf, List.drop_drop]
  rw [show 127 * Nat.succ k = 127 + 127 * k by omega]
theorem last_sector {t : List Nat} (h : t.length ≤ 127) : last (sectorOf t) = t.length := by
  unfold last sectorOf
  rw [List.getElem?_append_right (by simp; omega)]
  simp only [List.length_append, List.length_replicate, show 127 - (t.length + (127 - t.length)) = 0 by omega]
  rfl
theorem take_sector (t : List Nat) : (sectorOf t).take t.length = t := by
  unfold sectorOf
  rw [List.append_assoc, List.take_left']
  rfl
theorem read_sector {t : List Nat} (h : t.length ≤ 127) (ss : List (List Nat)) : readL (sectorOf t :: ss) = if t.length < 127 then t else t ++ readL ss := by
  simp only [readL]
  rw [if_neg (by simp [sectorOf_length h]), last_sector h, if_neg (by omega), take_sector]

theorem read_take : ∀ (n : Nat) (l : List Nat), readL ((layOf l).take n) = l.take (127 * n) := by
  intro n
  induction n with
  | zero => intro l; simp [readL]
  | succ n ih =>
    intro l
    by_cases h : l = []
    · subst h; simp [layOf_nil, readL]
    · rw [layOf_cons h, List.take_succ_cons, read_sector (by simp; omega), ih]
      split
      · rename_i hlt
        rw [List.length_take] at hlt
        rw [List.take_of_length_le (by omega), List.take_of_length_le (by omega)]
      · rename_i hlt
        rw [List.length_take] at hlt
        rw [show 127 * (n + 1) = 127 + 127 * n by omega, List.take_add]
theorem layOf_length' (l : List Nat) : (layOf l).length = chunks l := by simp [layOf]
theorem read_lay (l : List Nat) : readL (layOf l) = l := by
  have := read_take (chunks l) l
  rw [List.take_of_length_le (by rw [layOf_length']; exact Nat.le_refl _), List.take_of_length_le (by unfold chunks; omega)] at this
  exact this
theorem zeros_sector : List.replicate 128 0 = sectorOf [] := by
  unfold sectorOf
  rw [List.nil_append, List.length_nil, Nat.sub_zero, ← List.replicate_succ']
theorem read_zeros (m : Nat) : readL (List.replicate m (List.replicate 128 0)) = [] := by
  cases m with
  | zero => rfl
  | succ m =>
    rw [List.replicate_succ, show List.replicate 128 0 = sectorOf [] from zeros_sector, read_sector (by simp)]
    simp
theorem read_more (m : Nat) : ∀ (k : Nat) (l : List Nat), l.length ≤ k → readL (layOf l ++ List.replicate m (List.replicate 128 0)) = l := by
  intro k
  induction k with
  | zero =>
    intro l hl
    obtain rfl : l = [] := List.eq_nil_of_length_eq_zero (by omega)
    exact read_zeros m
  | succ k ih =>
    intro l hl
    by_cases h : l = []
    · subst h
      exact read_zeros m
    · rw [layOf_cons h, List.cons_append, read_sector (by simp; omega)]
      have hp : 0 < l.length := List.length_pos_iff.2 h
      split
      · rename_i hlt
        rw [List.length_take] at hlt
        rw [List.take_of_length_le (by omega)]
      · rw [ih _ (by simp; omega), List.take_append_drop]

/-- A sector that holds a front of what the stream's i-th one holds, in its place: what is read then is a front of the stream. -/
theorem set_read (b : List Nat) (hb : b.length = 128) : ∀ (i : Nat) (s : List Nat), i < chunks s → last b ≤ (chunkOf s i).length → b.take (last b) = (chunkOf s i).take (last b) → ∃ g, 127 * i ≤ g ∧ g ≤ s.length ∧ readL ((layOf s).set i b) = s.take g := by
  intro i
  induction i with
  | zero =>
    intro s hi hl ht
    have hs : s ≠ [] := fun e => by subst e; simp [chunks] at hi
    have hc : chunkOf s 0 = s.take 127 := by simp [chunkOf]
    rw [hc] at hl ht
    rw [List.length_take] at hl
    rw [layOf_cons hs, List.set_cons_zero]
    simp only [readL]
    rw [if_neg (by simp [hb]), if_neg (by omega), ht, read_lay]
    by_cases h : last b < 127
    · rw [if_pos h]
      exact ⟨last b, by omega, by omega, by rw [List.take_take, Nat.min_eq_left (by omega)]⟩
    · rw [if_neg h]
      have e : last b = 127 := by omega
      exact ⟨s.length, by omega, Nat.le_refl _, by rw [e, List.take_take, Nat.min_self, List.take_append_drop, List.take_length]⟩
  | succ i ih =>
    intro s hi hl ht
    have hs : s ≠ [] := fun e => by subst e; simp [chunks] at hi
    have hc : chunkOf s (i + 1) = chunkOf (s.drop 127) i := by
      simp only [chunkOf, List.drop_drop]
      rw [show 127 * (i + 1) = 127 + 127 * i by omega]
    rw [hc] at hl ht
    have h127 : 127 < s.length := by unfold chunks at hi; omega
    obtain ⟨g, h1, h2, h3⟩ := ih (s.drop 127) (by simp only [chunks, List.length_drop] at hi ⊢; omega) hl ht
    rw [layOf_cons hs, List.set_cons_succ, read_sector (by simp; omega), h3, if_neg (by simp; omega)]
    rw [List.length_drop] at h2
    exact ⟨127 + g, by omega, by omega, by rw [List.take_add]⟩
end Go.Proofs.Ytkganajbilnanaa
