/- page: the document's together. Conditions: its page lies there; its lengths are 448 at most in sum. -/
import Derived.Test.YtkknfccfgmflmaaPgRefC
namespace Go.Proofs.Ytkknfccfgmflmaa
open Go.ChangeShapes Go.WideShapes Go.ChangeAt Go.RowKit
open NumMath
set_option linter.unusedVariables false
set_option linter.unusedSimpArgs false
set_option maxRecDepth 20000

theorem arr_set (f : Nat → Nat) (k v : Nat) (hk : k < 448) : (arr f).setIfInBounds k (.int .u8 (v : Int)) = arr (up1 f k v) := by
  unfold arr pgL
  rw [List.setIfInBounds_toArray]
  refine congrArg List.toArray (List.ext_getElem ?_ ?_)
  · simp
  · intro j h1 h2
    simp only [List.length_map, List.length_range] at h2
    rw [List.getElem_set]
    simp only [List.getElem_map, List.getElem_range]
    unfold up1 byteV
    by_cases e : k = j
    · subst e; rw [if_pos rfl, if_pos rfl]
    · rw [if_neg e, if_neg (fun z => e z.symm)]
theorem upd_next (f : Nat → Nat) (a : Nat) (l : List Nat) (v : Nat) : up1 (upd f a l) (a + l.length) v = upd f a (l ++ [v]) := by
  funext i
  unfold up1 upd
  rw [List.length_append, List.length_singleton]
  by_cases e : i = a + l.length
  · subst e
    rw [if_pos rfl, if_pos (by omega), Nat.add_sub_cancel_left, List.getElem?_append_right (Nat.le_refl _), Nat.sub_self]
    rfl
  · rw [if_neg e]
    by_cases h : a ≤ i ∧ i < a + l.length
    · rw [if_pos h, if_pos (by omega), List.getElem?_append_left (by omega)]
    · rw [if_neg h, if_neg (by omega)]
theorem cut_next (f : Nat → Nat) (a n : Nat) : cut f a n ++ [f (a + n)] = cut f a (n + 1) := by
  rw [cut_add]
  rfl
theorem rpA_size (r : RP) : (rpA r).size = 530 := by simp [rpA]
theorem rpV_B (r : RP) (b : Nat → Nat) {j : Nat} (hj : j < 82) : rpV { r with B := b } j = rpV r j := by
  unfold rpV
  by_cases h0 : j = 0
  · rw [if_pos h0, if_pos h0]
  by_cases h1 : j = 1
  · rw [if_neg h0, if_neg h0, if_pos h1, if_pos h1]
  rw [if_neg h0, if_neg h0, if_neg h1, if_neg h1]
  by_cases h2 : j < 42
  · rw [if_pos h2, if_pos h2]
  · rw [if_neg h2, if_neg h2, if_pos hj, if_pos hj]
theorem rpV_B2 (r : RP) (b : Nat → Nat) {j : Nat} (hj : 82 ≤ j) : rpV { r with B := b } j = byteV (b (j - 82)) := by
  unfold rpV
  rw [if_neg (by omega), if_neg (by omega), if_neg (by omega), if_neg (by omega)]
theorem rpA_all (r : RP) (b : Nat → Nat) : ((rpA r).toList.take (82 + 0) ++ (arr b).toList ++ (rpA r).toList.drop (82 + 0 + (arr b).toList.length)).toArray = rpA { r with B := b } := by
  have hl : (rpA r).toList = (List.range 530).map (rpV r) := rfl
  have hb : (arr b).toList = (List.range 448).map fun i => byteV (b i) := by simp [arr, pgL]
  have hlen : ((List.range 530).map (rpV r)).length = 530 := by rw [List.length_map, List.length_range]
  rw [hl, hb]
  show _ = ((List.range 530).map (rpV { r with B := b })).toArray
  refine congrArg List.toArray (List.ext_getElem? fun j => ?_)
  have hd : List.drop (82 + 0 + ((List.range 448).map fun i => byteV (b i)).length) ((List.range 530).map (rpV r)) = [] := List.drop_eq_nil_of_le (by rw [hlen, List.length_map, List.length_range]; omega)
  have ht : (((List.range 530).map (rpV r)).take (82 + 0)).length = 82 := by rw [List.length_take, hlen]; rfl
  rw [hd, List.append_nil]
  rcases Nat.lt_or_ge j 82 with q | q
  · rw [List.getElem?_append_left (by rw [ht]; exact q), List.getElem?_take, if_pos (by omega), List.getElem?_map, List.getElem?_map, List.getElem?_range (by omega)]
    exact congrArg some (rpV_B r b q).symm
  · rw [List.getElem?_append_right (by rw [ht]; exact q), ht, List.getElem?_map, List.getElem?_map]
    rcases Nat.lt_or_ge j 530 with z | z
    · rw [List.getElem?_range (by omega), List.getElem?_range z]
      exact congrArg some (rpV_B2 r b q).symm
    · rw [List.getElem?_eq_none (by rw [List.length_range]; omega), List.getElem?_eq_none (by rw [List.length_range]; omega)]
      rfl
theorem arr_one (b : Nat → Nat) : ∀ u ∈ (arr b).toList, u.oneCell' = true := fun u hu => bytes_oneCell (pgL b) u (by simpa [arr] using hu)
theorem run_store448 {w : World} {gr : Nat} {r : RP} (b : Nat → Nat) (hB : Blk w gr 70 (rpA r)) :
    (Instr.storeAt 65 (.pointer (some ⟨gr, 82, none⟩)) (.agg (arr b))).run Try.prog w = .ok () (w.setRow gr (rpA { r with B := b })) := by
  have hst := run_storeCells_at Try.prog gr 82 70 (arr b).toList 0 (rpA r) w hB (by rw [Array.length_toList, arr_size, rpA_size]; omega) (arr_one b)
  rw [rpA_all] at hst
  have hs : (Value.agg (arr b)).cells.size = 448 := arr_size b
  simp only [Instr.storeAt, Instr.sureAddr, Sem.run_bind, Sem.run_pure, Result.andThen_ok]
  unfold storeVar
  simp only [Sem.run_bind, size448, Result.andThen_ok, hs]
  simpa [Value.cells] using hst
theorem wp_store_run {P : Program} {w w' : World} {o : Oper} {a : Act} {K : Act → World → Prop} {Q : Exit → Act → World → Prop} (t : TypeId) (x y : Operand) (X Y : Value) (ho : o.op = .store t x y) (hx : a.eval x = X) (hy : a.eval y = Y)
    (hr : (Instr.storeAt t X Y).run P w = .ok () w') (h : K (a.put o.dst undef) w') : o.wp P a w K Q := by
  unfold Oper.wp execOp
  simp only [ho, hx, hy, Sem.run_bind, hr, Result.andThen_ok]
  exact h
theorem wpList_store_run {P : Program} {w w' : World} {ops : Array Oper} {rest : List Oper} {o : Oper} {a : Act} {Q : Exit → Act → World → Prop} (hgd : o.guard = none) (t : TypeId) (x y : Operand) (X Y : Value) (ho : o.op = .store t x y) (hx : a.eval x = X) (hy : a.eval y = Y)
    (hr : (Instr.storeAt t X Y).run P w = .ok () w') (h : wpList P ops Q rest (a.put o.dst undef) w') : wpList P ops Q (o :: rest) a w :=
  wpList_plain hgd fun _ hK => wp_store_run t x y X Y ho hx hy hr (hK _ _ h)
theorem wpList_load_run {P : Program} {w : World} {ops : Array Oper} {rest : List Oper} {o : Oper} {a : Act} {Q : Exit → Act → World → Prop} (hgd : o.guard = none) (t : TypeId) (x : Operand) (X v : Value) (ho : o.op = .load t x) (hx : a.eval x = X)
    (hr : (Instr.loadAt t X).run P w = .ok v w) (h : wpList P ops Q rest (a.put o.dst v) w) : wpList P ops Q (o :: rest) a w :=
  wpList_plain hgd fun _ hK => wp_load_run t x X v ho hx hr (hK _ _ h)
theorem tog_sum {r : RP} (h : totN r.S 40 ≤ 448) (k : Nat) (hk : k ≤ 40) : (togK r k).1 + totN r.S k = 448 := by
  have mono : ∀ m, totN r.S k ≤ totN r.S (k + m) := fun m => by
    induction m with
    | zero => exact Nat.le_refl _
    | succ m ih => show _ ≤ totN r.S (k + m) + r.S (k + m); omega
  have hm := mono (40 - k)
  rw [show k + (40 - k) = 40 by omega] at hm
  clear mono
  induction k with
  | zero => rfl
  | succ k ih =>
    have e : totN r.S (k + 1) = totN r.S k + r.S k := rfl
    have := ih (by omega) (by omega)
    rw [e] at hm ⊢
    by_cases hy : 0 < r.S k
    · have : togK r (k + 1) = ((togK r k).1 - r.S k, up1 (togK r k).2.1 k ((togK r k).1 - r.S k), upd (togK r k).2.2 ((togK r k).1 - r.S k) (cut r.B (r.O k) (r.S k))) := if_pos hy
      rw [this]
      show (togK r k).1 - r.S k + _ = _
      omega
    · have : togK r (k + 1) = togK r k := if_neg hy
      rw [this]
      omega
theorem tog_O {r : RP} (k : Nat) : ∀ t, k ≤ t → (togK r k).2.1 t = r.O t := by
  induction k with
  | zero => intro t _; rfl
  | succ k ih =>
    intro t ht
    by_cases hy : 0 < r.S k
    · have : togK r (k + 1) = ((togK r k).1 - r.S k, up1 (togK r k).2.1 k ((togK r k).1 - r.S k), upd (togK r k).2.2 ((togK r k).1 - r.S k) (cut r.B (r.O k) (r.S k))) := if_pos hy
      rw [this]
      show up1 (togK r k).2.1 k _ t = _
      unfold up1
      rw [if_neg (by omega)]
      exact ih t (by omega)
    · have : togK r (k + 1) = togK r k := if_neg hy
      rw [this]
      exact ih t (by omega)
theorem zc65 : Try.zeroCells65 = arr zeroF := by kernel_rfl
section
variable {w : World} {gr : Nat} {r : RP}
set_option maxHeartbeats 8000000 in
theorem rtogether_any (h : RAt w gr r) (hsum : totN r.S 40 ≤ 448) (hfit : RFit (togR r)) :
    Calls Try.prog 59 #[.pointer (some ⟨gr, 0, none⟩)] w fun e w' => e = .returned (.tuple #[]) ∧ RPost gr (togR r) w w' := by
  have hb0 : Blk (w.alloc (.cells Try.zeroCells65 65)) w.heap.size 65 (arr zeroF) := by rw [zc65]; exact Blk.new w _ _
  have hbw : Below w.heap.size w (w.alloc (.cells Try.zeroCells65 65)) := (Below.refl _ _).alloc (Nat.le_refl _) _
  have hB0 := (h.below hbw).blk
  have ho0 : Only (fun b => b = gr) w (w.alloc (.cells Try.zeroCells65 65)) := Only.of_below hbw _
  have hgl := h.lt
  have hfs := fun k hk => h.fit k hk
  have hsm := h.small
  have hts := fun k hk => tog_sum hsum k hk
  have HFIT := Lib.hid hfit
  have HT : Hid (togR r = { r with O := (togK r 40).2.1, B := (togK r 40).2.2 }) := Lib.hid rfl
  clear h hbw hfit
  go_enter Try.func59, Try.ntmps59
  go_wp2_with fail
  generalize World.alloc w _ = w0 at *
  go_loopw [3, 4, 5] (fun av iv _ wr => ∃ k : Nat, k ≤ 40 ∧ iv = .int .i64 k ∧ av = .int .i64 ((togK r k).1 : Nat) ∧ Blk wr w.heap.size 65 (arr (togK r k).2.2) ∧ Blk wr gr 70 (rpA { r with O := (togK r k).2.1 }) ∧ Only (fun b => b = gr) w wr) (fun _ iv _ _ => 40 - (intOf iv).toNat)
  case atStart => exact ⟨0, Nat.zero_le _, rfl, rfl, hb0, hB0, ho0⟩
  case round =>
    clear hb0 hB0 ho0
    obtain ⟨k, hk, rfl, rfl, hb, hB, ho⟩ := hrel
    rcases Nat.lt_or_ge k 40 with hlt | hge
    · have e1 : decide ((k : Int) < 40) = true := by rw [decide_eq_true_iff]; omega
      have e2 : (0 : Int) ≤ (k : Int) := by omega
      have e3 : (k : Int) < 40 := by omega
      have cS := rpc_S hB hlt
      have s1 := hts k hk
      have s2 := hts (k + 1) (by omega)
      have s3 : totN r.S (k + 1) = totN r.S k + r.S k := rfl
      have hOk := tog_O (r := r) k k (Nat.le_refl _)
      have hf := hfs k hlt
      have hT : togK r (k + 1) = if 0 < r.S k then ((togK r k).1 - r.S k, up1 (togK r k).2.1 k ((togK r k).1 - r.S k), upd (togK r k).2.2 ((togK r k).1 - r.S k) (cut r.B (r.O k) (r.S k))) else togK r k := rfl
      by_cases hy : 0 < r.S k
      · rw [if_pos hy] at hT
        have hat : (togK r k).1 = (togK r (k + 1)).1 + r.S k := by omega
        obtain ⟨a, ha⟩ : ∃ a, (togK r (k + 1)).1 = a := ⟨_, rfl⟩
        rw [ha] at hat s2
        have ha2 : (togK r k).1 - r.S k = a := by omega
        rw [ha2] at hT
        obtain ⟨p, hp⟩ : ∃ p, (togK r k).1 = p := ⟨_, rfl⟩
        rw [hp] at hat
        rw [hp]
        have hS : ∀ W X Y, Blk W gr 70 (rpA { r with O := X, B := Y }) → W.cell? ⟨gr, 42 + k, none⟩ = some (.int .i64 (r.S k : Nat)) := fun W X Y hW => rpc_S hW hlt
        have HTT := Lib.hid (And.intro hT ha)
        have ha448 : a + r.S k ≤ 448 := by omega
        clear hT ha ha2 s1 s3 hts hp
        generalize hO : (togK r k).2.1 = O at *
        generalize hBk : (togK r k).2.2 = b at *
        generalize hSk : r.S k = y at *
        generalize hxk : r.O k = x at *
        clear hO hBk hSk
        have wr1 : IntKind.i64.wrap ((p : Int) - (y : Int)) = (a : Int) := by rw [IntKind.wrap_i64]; omega
        have wr2 : (p : Int) - (y : Int) = (a : Int) := by omega
        have HP := Lib.hid hat
        clear hat
        go_wp2_with fail
        go_loopw [5] (fun jv wq => ∃ j : Nat, j ≤ y ∧ jv = .int .i64 j ∧ Blk wq w.heap.size 65 (arr (upd b a (cut r.B x j))) ∧ Blk wq gr 70 (rpA { r with O := O }) ∧ Only (fun b => b = gr) w wq) (fun jv _ => y - (intOf jv).toNat)
        case atStart => exact ⟨0, Nat.zero_le _, rfl, by rw [show cut r.B x 0 = [] from rfl, upd_nil]; exact hb, hB, ho⟩
        case round =>
          clear hb hB ho cS
          obtain ⟨j, hj, rfl, hb, hB, ho⟩ := hrel
          have cS := hS _ _ _ hB
          rcases Nat.lt_or_ge j y with hjy | hjy
          · have t1 : decide ((j : Int) < (y : Int)) = true := by rw [decide_eq_true_iff]; omega
            have cO := rpc_O hB hlt
            simp only [hOk] at cO
            have cB := rpc_B hB (show x + j < 448 by omega)
            simp only at cB
            have v1 : IntKind.i64.wrap ((a : Int) + (j : Int)) = (a : Int) + (j : Int) := by rw [IntKind.wrap_i64]; omega
            have v2 : IntKind.i64.wrap ((x : Int) + (j : Int)) = (x : Int) + (j : Int) := by rw [IntKind.wrap_i64]; omega
            have i1 : (0 : Int) ≤ (a : Int) + (j : Int) := by omega
            have i2 : (a : Int) + (j : Int) < 448 := by omega
            have i3 : (0 : Int) ≤ (x : Int) + (j : Int) := by omega
            have i4 : (x : Int) + (j : Int) < 448 := by omega
            have n1 : ((a : Int) + (j : Int)).toNat = a + j := by omega
            have n2 : ((x : Int) + (j : Int)).toNat = x + j := by omega
            have hb2 := hb.drew
            have hB2 := hB.drew
            have ho2 := ho.drew
            have fz := hb2.frozen (a + j)
            have hc := hb2.cell (a + j)
            rw [arr_at _ _ (by omega)] at hc
            have hb3 := hb2.set_ (a + j) (.int .u8 (r.B (x + j) : Nat))
            have hnx := upd_next b a (cut r.B x j) (r.B (x + j))
            rw [cut_length, cut_next] at hnx
            rw [arr_set _ _ _ (by omega), hnx] at hb3
            have hB3 := hB2.far (p := ⟨w.heap.size, a + j, none⟩) (by show gr ≠ w.heap.size; omega) (.int .u8 (r.B (x + j) : Nat))
            have ho3 := ho2.setCell (p := ⟨w.heap.size, a + j, none⟩) (.inr (Nat.le_refl _)) (.int .u8 (r.B (x + j) : Nat))
            have FIN := Lib.hid (And.intro hb3 (And.intro hB3 ho3))
            clear hb3 hB3 ho3 hnx hb2 hB2 ho2 hb hB ho hS
            go_wp2_with fail
            go_still_tail 17, (by kernel_rfl)
            change wpList _ _ _ _ _ _
            go_wp2
            go_roundw
            case rel => exact ⟨j + 1, by omega, by go_num, FIN.out⟩
            case measure => simp [intOf]; omega
          · obtain rfl : j = y := by omega
            have t1 : decide ((j : Int) < (j : Int)) = false := by rw [decide_eq_false_iff_not]; omega
            have f2 := hB.frozen (2 + k)
            have c2 := rpc_O hB hlt
            have hb3 := hb.far (p := ⟨gr, 2 + k, none⟩) (by show w.heap.size ≠ gr; omega) (.int .i64 (a : Nat))
            have hB3 := rpb_O hB k a hlt
            have ho3 := ho.setCell (p := ⟨gr, 2 + k, none⟩) (.inl rfl) (.int .i64 (a : Nat))
            have FIN := Lib.hid (And.intro hb3 (And.intro hB3 ho3))
            clear hb3 hB3 ho3 hb hB ho hS
            go_wp2
            go_roundw
            case rel => exact ⟨k + 1, by omega, by go_num, by rw [HTT.out.2], by rw [HTT.out.1]; exact FIN.out.1, by rw [HTT.out.1]; exact FIN.out.2.1, FIN.out.2.2⟩
            case measure => simp [intOf]; omega
      · rw [if_neg hy] at hT
        have hy0 : r.S k = 0 := by omega
        have HTT := Lib.hid hT
        clear hT s1 s2 s3 hts hy hf
        rw [hy0] at cS
        clear hy0
        have FIN := Lib.hid (And.intro hb (And.intro hB ho))
        clear hb hB ho
        go_wp2
        go_roundw
        case rel => exact ⟨k + 1, by omega, by go_num, by rw [HTT.out], by rw [HTT.out]; exact FIN.out.1, by rw [HTT.out]; exact FIN.out.2.1, FIN.out.2.2⟩
        case measure => simp [intOf]; omega
    · obtain rfl : k = 40 := by omega
      have e1 : decide (((40 : Nat) : Int) < 40) = false := rfl
      have hfit := HFIT.out
      rw [HT.out] at hfit
      have ht := HT.out
      generalize (togK r 40).2.1 = O at *
      generalize (togK r 40).2.2 = b at *
      generalize (togK r 40).1 = p at *
      have hld := run_load448 wr w.heap.size 0 b (fun j hj => by rw [Nat.zero_add, hb.cell j, arr_at _ _ hj])
      have hst := run_store448 b hB
      have FIN : Hid (RPost gr (togR r) w (wr.setRow gr (rpA { r with O := O, B := b }))) := Lib.hid (by rw [ht]; exact
        ⟨⟨hfit, setRow_heap wr gr _ _ _ _ hB⟩, ho.trans (S' := fun b => b = gr) ⟨rfl, rfl, rfl, by simp [World.setRow], fun x hx hne => setRow_other wr gr x _ hne⟩ fun x hx => .inl hx⟩)
      have hsz := arr_size b
      clear hb hB ho hts hfs hsm hfit hsum HT HFIT ht
      generalize arr b = X at *
      go_wp2_with (first | (refine wpList_load_run rfl 65 (.tmp 2) _ _ rfl rfl hld ?_; clear hld) | (refine wpList_store_run rfl 65 (.tmp 61) (.tmp 59) _ _ rfl rfl rfl hst ?_; clear hst))
      go_end0
      exact ⟨rfl, FIN.out⟩
end
end Go.Proofs.Ytkknfccfgmflmaa
