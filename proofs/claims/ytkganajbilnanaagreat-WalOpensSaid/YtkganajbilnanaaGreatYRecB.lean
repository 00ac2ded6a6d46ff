/- rec: may. Conditions: the record lies there. -/
import Derived.Test.YtkganajbilnanaaGreatYRecA
import Derived.Deep.RegionLaw
import Derived.Test.YtkganajbilnanaaGreatYDiskA
import Derived.Deep.RegionHeld3
import Derived.Deep.CutBlock
set_option linter.unusedVariables false
set_option linter.unusedSimpArgs false
namespace Go.Proofs.YtkganajbilnanaaGreat
open Go.ChangeShapes Go.WideShapes Go.ChangeAt Go.RowKit
open NumMath
set_option maxRecDepth 20000
def okR' (k nt np : Nat) (c a : Bool) : Bool := decide (1 ≤ k) && decide (k ≤ 8) && decide (nt ≤ 64) && decide (np ≤ 64) && (k == 8 || decide (nt + np = 0)) && c && !a
theorem okR_eq (r : RecP) : okR r = okR' r.kind r.txns.length r.pages.length (okC r) (r.txns.any badT) := rfl
theorem okR_no {k nt np : Nat} (c a : Bool) (h : k < 1 ∨ 8 < k ∨ 64 < nt ∨ 64 < np ∨ (k ≠ 8 ∧ 0 < nt + np)) : okR' k nt np c a = false := by
  unfold okR'
  rcases h with h | h | h | h | ⟨h, h2⟩
  · simp [decide_eq_false (show ¬ 1 ≤ k by omega)]
  · simp [decide_eq_false (show ¬ k ≤ 8 by omega)]
  · simp [decide_eq_false (show ¬ nt ≤ 64 by omega)]
  · simp [decide_eq_false (show ¬ np ≤ 64 by omega)]
  · have e : (k == 8) = false := by simp [h]
    rw [e, decide_eq_false (show ¬ nt + np = 0 by omega)]
    simp
theorem okR_yes {k nt np : Nat} (c a : Bool) (h1 : 1 ≤ k) (h2 : k ≤ 8) (h3 : nt ≤ 64) (h4 : np ≤ 64) (h5 : k = 8 ∨ nt + np = 0) : okR' k nt np c a = (c && !a) := by
  unfold okR'
  rw [decide_eq_true h1, decide_eq_true h2, decide_eq_true h3, decide_eq_true h4]
  have e : (k == 8 || decide (nt + np = 0)) = true := by
    rcases h5 with h | h
    · simp [h]
    · rw [decide_eq_true h, Bool.or_true]
  rw [e]
  simp
set_option maxHeartbeats 4000000 in
theorem may_any (r : RecP) (m : RecMm) (B : Nat) (w : World) (h : RecAt w B r m) (hB : B ≤ w.heap.size) :
    Calls Tryz.prog 107 #[.agg (recA r m)] w fun e w' => e = .returned (.bool (okR r)) ∧ Below w.heap.size w w' := by
  have kb := Blk.new w 51 (recA r m)
  have hb := below_alloc w (.cells (recA r m) 51)
  have hO := okR_eq r
  go_enter Tryz.func107, Tryz.ntmps107
  go_upto_region 1 with fail
  generalize World.alloc w _ = w1 at *
  have ld := load_rec kb
  have kc := RecBox.of kb
  have cm := mayChange_any r m w1
  have ct := fun W (hW : Below w1.heap.size w1 W) (hn : r.txns.length ≤ 100000) => txhas_any m.A3 m.c3 r.txns B W (h.txs.below ((hb.mono hB).trans (hW.mono (Nat.le_trans hB hb.size)))) (Nat.le_trans hB (Nat.le_trans hb.size hW.size)) hn
  have hlt := kb.lt
  have hk10 : Hid (∀ W, Below w1.heap.size w1 W → W.cell? ⟨w.heap.size, 10, none⟩ = some (.slice m.A3 r.txns.length m.c3)) := Lib.hid fun W hW => (hW.cell (p := ⟨w.heap.size, 10, none⟩) hlt).trans kc.k10
  obtain ⟨q0, -, -, -, -, -, -, -, -, -, q10, q11⟩ := kc
  have HB := Lib.hid hb
  have HO := Lib.hid hO
  have hFIN : ∀ W, Below w1.heap.size w1 W → Below w.heap.size w W := fun W hW => hb.trans (hW.mono hb.size)
  have HFIN := Lib.hid hFIN
  clear kb hb hO h hFIN
  obtain ⟨k, hk⟩ : ∃ k, r.kind = k := ⟨_, rfl⟩
  obtain ⟨np, hnp⟩ : ∃ np, r.pages.length = np := ⟨_, rfl⟩
  obtain ⟨nt, hnt⟩ : ∃ nt, r.txns.length = nt := ⟨_, rfl⟩
  have NO : k < 1 ∨ 8 < k ∨ 64 < nt ∨ 64 < np ∨ (k ≠ 8 ∧ 0 < nt + np) → Hid (okR r = false) := fun z => Lib.hid (by rw [HO.out, hk, hnp, hnt]; exact okR_no _ _ z)
  have YES : 1 ≤ k → k ≤ 8 → nt ≤ 64 → np ≤ 64 → (k = 8 ∨ nt + np = 0) → Hid (okR r = (okC r && !(r.txns.any badT))) := fun a b c d e => Lib.hid (by rw [HO.out, hk, hnp, hnt]; exact okR_yes _ _ a b c d e)
  rw [hk] at q0
  rw [hnp] at q11
  rw [hnt] at q10 ct hk10
  clear hk hnp hnt
  rcases Nat.lt_or_ge k 1 with z | z
  · have t1 : decide ((k : Int) < 1) = true := by rw [decide_eq_true_iff]; omega
    have HE := NO (.inl z)
    clear z YES NO ct cm ld
    go_wp2
    go_ret
    exact ⟨by rw [HE.out]; rfl, HB.out⟩
  have t1 : decide ((k : Int) < 1) = false := by rw [decide_eq_false_iff_not]; omega
  rcases Nat.lt_or_ge 8 k with z2 | z2
  · have t2 : decide ((8 : Int) < (k : Int)) = true := by rw [decide_eq_true_iff]; omega
    have HE := NO (.inr (.inl z2))
    clear z z2 YES NO ct cm ld
    go_wp2
    go_ret
    exact ⟨by rw [HE.out]; rfl, HB.out⟩
  have t2 : decide ((8 : Int) < (k : Int)) = false := by rw [decide_eq_false_iff_not]; omega
  rcases Nat.lt_or_ge 64 nt with z3 | z3
  · have t3 : decide ((64 : Int) < (nt : Int)) = true := by rw [decide_eq_true_iff]; omega
    have HE := NO (.inr (.inr (.inl z3)))
    clear z z2 z3 YES NO ct cm ld
    go_wp2
    go_ret
    exact ⟨by rw [HE.out]; rfl, HB.out⟩
  have t3 : decide ((64 : Int) < (nt : Int)) = false := by rw [decide_eq_false_iff_not]; omega
  rcases Nat.lt_or_ge 64 np with z4 | z4
  · have t4 : decide ((64 : Int) < (np : Int)) = true := by rw [decide_eq_true_iff]; omega
    have HE := NO (.inr (.inr (.inr (.inl z4))))
    clear z z2 z3 z4 YES NO ct cm ld
    go_wp2
    go_ret
    exact ⟨by rw [HE.out]; rfl, HB.out⟩
  have t4 : decide ((64 : Int) < (np : Int)) = false := by rw [decide_eq_false_iff_not]; omega
  have v1 : IntKind.i64.wrap ((nt : Int) + (np : Int)) = (nt : Int) + (np : Int) := by rw [IntKind.wrap_i64]; omega
  by_cases z5 : k ≠ 8 ∧ 0 < nt + np
  · have t5 : ((k : Int) != 8) = true := by rw [bne_iff_ne]; omega
    have t6 : decide ((0 : Int) < (nt : Int) + (np : Int)) = true := by rw [decide_eq_true_iff]; omega
    have HE := NO (.inr (.inr (.inr (.inr z5))))
    clear z z2 z3 z4 z5 YES NO ct cm ld
    go_wp2
    go_ret
    exact ⟨by rw [HE.out]; rfl, HB.out⟩
  have hor : k = 8 ∨ (k ≠ 8 ∧ nt = 0 ∧ np = 0) := by omega
  have HE := YES z z2 z3 z4 (by omega)
  have ct2 := fun W hW => ct W hW (by omega)
  clear z z2 z3 z4 z5 YES NO ct
  generalize okC r = cb at *
  generalize r.txns.any badT = ab at *
  have T5 : ((k : Int) != 8) = false ∨ (((k : Int) != 8) = true ∧ nt = 0 ∧ np = 0) := by
    rcases hor with z | ⟨z, z1, z2⟩
    · left; rw [bne_eq_false_iff_eq]; omega
    · right; exact ⟨by rw [bne_iff_ne]; omega, z1, z2⟩
  clear hor
  rcases T5 with t5 | ⟨t5, rfl, rfl⟩
  all_goals
    go_wp2_with (refine wpList_load_run rfl 51 (.tmp 1) _ _ rfl rfl ld ?_; clear ld)
    refine cm.mono ?_
    rintro e w2 ⟨rfl, b2⟩
    have p10 := hk10.out w2 b2
    have ct3 := ct2 w2 b2
    have B2 := Lib.hid (HFIN.out _ b2)
    have hB2 := Lib.hid b2
    clear cm q0 q10 q11 b2 ct2
    cases cb
    · clear ct3
      go_wp2
      go_ret
      exact ⟨by rw [HE.out]; rfl, B2.out⟩
    · go_wp2_with fail
      refine ct3.mono ?_
      rintro e w3 ⟨rfl, b3⟩
      have B3 := Lib.hid (HFIN.out _ (hB2.out.trans (b3.mono hB2.out.size)))
      clear ct3 b3
      go_wp2
      go_ret
      exact ⟨by rw [HE.out]; rfl, B3.out⟩
structure Wr (base : Nat) (W0 : World) (S : Nat → Prop) (p : Nat) (l : List Nat) (w : World) (A : Option Addr) (c : Nat) : Prop where
  blk : Blk w p 163 #[.slice A l.length c]
  own : w.ownsRow base 5 1 (.slice A l.length c) l.length (l.map byteV)
  row : ∀ k, (Value.slice A l.length c).ownBlock = some k → S k ∨ W0.heap.size ≤ k
  only : Only S W0 w
  sp : S p
  bas : base ≤ W0.heap.size
  plt : p < W0.heap.size
  small : Small l
def WrE (base : Nat) (W0 : World) (S : Nat → Prop) (p : Nat) (l : List Nat) (w : World) : Prop := ∃ A c, Wr base W0 S p l w A c
theorem cell_of_blk {w : World} {p : Nat} {v : Value} {t : TypeId} (h : w.heap[p]? = some (.cells #[v] t (0, 0))) : w.cell? ⟨p, 0, none⟩ = some v := by simp [World.cell?, h]
theorem frozen_of_blk {w : World} {p : Nat} {cs : Array Value} {t : TypeId} (h : w.heap[p]? = some (.cells cs t (0, 0))) (i : Nat) : w.frozen? ⟨p, i, none⟩ = false := by simp [World.frozen?, h]
section
variable {base p : Nat} {W0 w w' w1 w2 : World} {S S' : Nat → Prop} {l news : List Nat} {A A2 : Option Addr} {c c2 m : Nat}
theorem Wr.pw (h : Wr base W0 S p l w A c) : p < w.heap.size := Nat.lt_of_lt_of_le h.plt h.only.size
theorem Wr.below (h : Wr base W0 S p l w A c) (hb : Below w.heap.size w w') : Wr base W0 S p l w' A c :=
  ⟨h.blk.below hb h.pw, kept_none (below_none hb) h.own, h.row, h.only.trans (Only.of_below hb (fun b => b = p)) fun b q => .inl (by rw [q]; exact h.sp), h.sp, h.bas, h.plt, h.small⟩
theorem Wr.rebase (h : Wr base W0 S p l w A c) (o : Obj) :
    Wr base (w.alloc o) (fun b => b = p ∨ (Value.slice A l.length c).ownBlock = some b) p l (w.alloc o) A c ∧ (∀ b, (b = p ∨ (Value.slice A l.length c).ownBlock = some b) → b < w.heap.size ∧ (S b ∨ W0.heap.size ≤ b)) := by
  have hb := (Below.refl w.heap.size w).alloc (Nat.le_refl _) o
  have h2 := h.below hb
  refine ⟨⟨h2.blk, h2.own, fun k hk => .inl (.inr hk), Only.refl _ _, .inl rfl, Nat.le_trans h.bas (Nat.le_trans h.only.size hb.size), Nat.lt_of_lt_of_le h.pw hb.size, h.small⟩, fun b hq => ?_⟩
  rcases hq with rfl | hq
  · exact ⟨h.pw, .inl h.sp⟩
  · exact ⟨(h.own.lt b hq).2, h.row b hq⟩
theorem Wr.back (h : Only S W0 w) (hb : Below w.heap.size w w1) (hs : ∀ b, S' b → S b ∨ W0.heap.size ≤ b) (hp : S p) (hba : base ≤ W0.heap.size) (hpl : p < W0.heap.size) (h2 : Wr base w1 S' p l w' A c) : Wr base W0 S p l w' A c := by
  have h01 : Only S W0 w1 := h.trans (Only.of_below hb (fun _ => False)) fun b q => q.elim
  refine ⟨h2.blk, h2.own, fun k hk => ?_, h01.trans h2.only fun b q => hs b q, hp, hba, hpl, h2.small⟩
  rcases h2.row k hk with q | q
  · exact hs k q
  · exact .inr (Nat.le_trans h01.size q)
theorem Wr.step (h : Wr base W0 S p l w A c) (hb1 : Below w.heap.size w w1) (hown1 : w1.ownsRow base 5 1 (.slice A l.length c) l.length (l.map byteV))
    (hown2 : w2.ownsRow base 5 1 (.slice A2 (l.length + m) c2) (l.length + m) (l.map byteV ++ news.map byteV)) (hg2 : w1.grownBy w2 (Value.slice A l.length c).ownBlock) (hat : (Value.slice A2 (l.length + m) c2).ownBlock = (Value.slice A l.length c).ownBlock ∨ (Value.slice A2 (l.length + m) c2).ownBlock = some w1.heap.size)
    (hbl2 : w2.heap[p]? = some (.cells #[.slice A l.length c] 163 (0, 0))) (hlen : news.length = m) (hsm : Small news) :
    Wr base W0 S p (l ++ news) (w2.setCell ⟨p, 0, none⟩ (.slice A2 (l.length + m) c2)) A2 c2 := by
  have e : (l ++ news).length = l.length + m := by rw [List.length_append, hlen]
  have o1 : Only S W0 w1 := h.only.trans (Only.of_below hb1 (fun _ => False)) fun b q => q.elim
  have o2 : Only S W0 w2 := o1.trans (Only.of_grown (S := fun b => S b ∨ W0.heap.size ≤ b) hg2 fun k hk => .inl (h.row k hk)) fun b q => q
  have o3 : Only S W0 (w2.setCell ⟨p, 0, none⟩ (.slice A2 (l.length + m) c2)) := o2.setCell (p := ⟨p, 0, none⟩) (.inl h.sp) _
  refine ⟨?_, ?_, fun k hk => ?_, o3, h.sp, h.bas, h.plt, small_append h.small hsm⟩
  · rw [e]
    have : Blk w2 p 163 #[.slice A l.length c] := hbl2
    exact this.set_ 0 _
  · rw [e, List.map_append]
    refine hown2.kept (row := some p) (((Only.refl (fun b => b = p) w2).setCell (p := ⟨p, 0, none⟩) (.inl rfl) _).grown (fun k hk => by rw [hk])) ((own_block (by decide) hown2 hbl2).imp id id)
  · rw [e] at hk
    rcases hat with q | q
    · rw [q] at hk; exact h.row k hk
    · rw [q] at hk
      injection hk with hk
      exact .inr (by rw [← hk]; exact o1.size)
end
set_option maxHeartbeats 2000000 in
theorem wnum_any (n m : Nat) (hn : n < 18446744073709551616) (h1 : 1 ≤ m) (h8 : m ≤ 8) {base : Nat} {W0 : World} {S : Nat → Prop} {p : Nat} {l : List Nat} {w : World} (h : WrE base W0 S p l w) (hl : l.length ≤ 100000) :
    Calls Tryz.prog 108 #[.pointer (some ⟨p, 0, none⟩), .int .u64 n, .int .i64 m] w fun e w' => e = .returned (.tuple #[]) ∧ WrE base W0 S p (l ++ putF m n) w' := by
  obtain ⟨A, c, h⟩ := h
  obtain ⟨i0, hi0, hz0, hz1, hz2⟩ := info_parts u8_info
  have hb := h.blk
  have hc := hb.cell 0
  have hpw := h.pw
  have hput := fun W => put_any n m W hn (by omega) (by omega)
  rw [show putB n (m : Int) = putF m n by unfold putB; rw [if_pos (by omega)]; rfl] at hput
  have hlen := putF_length m n
  have hsm := putF_small m n
  have hown := h.own
  have hd : Wr base W0 S p l w.drew A c := h.below (Below.refl _ _).drew
  have hbase : base ≤ w.heap.size := Nat.le_trans h.bas h.only.size
  have HD := Lib.hid hd
  clear h hd
  go_enter Tryz.func108, Tryz.ntmps108
  go_wp2_with fail
  replace hown : w.drew.ownsRow base 5 1 (.slice A l.length c) l.length (l.map byteV) := hown
  go_region_law
    (first
      | (go_simp; go_at_call 112; refine (hput _).mono ?_; intro e w1 hret; obtain ⟨A1, c1, rfl, hown1, hb1, hx1⟩ := hret.is; clear hret; have hbl1 : w1.heap[p]? = some (.cells #[.slice A l.length c] 163 (0, 0)) := (hb1.block p hpw).trans hb; have hc1 := cell_of_blk hbl1)
      | (refine step_append_at (by rfl) _ _ 45 45 (by rfl) base 5 i0 _ 1 Tryz.underlying45 Tryz.underlying45 hi0 hz0 hz1 hz2 rfl (.slice A l.length c) l.length (l.map byteV) (by rfl) (kept_none (below_none hb1) hown) w1.heap.size A1 m c1 ((putF m n).map byteV) (by rfl) (by simp [hlen]) hx1.1 (bytes_oneCell _) (by unfold maxLen; omega) (by omega) (Nat.le_trans hbase hb1.size) ?_; intro A2 c2 w2 hown2 hg2 hat2; have hbl2 : w2.heap[p]? = some (.cells #[.slice A l.length c] 163 (0, 0)) := (hg2.block p (Nat.lt_of_lt_of_le hpw hb1.size) ((own_block (by decide) (kept_none (below_none hb1) hown) hbl1).elim (fun e => by rw [e]; simp) Ne.symm)).trans hbl1; have hc2 := cell_of_blk hbl2; have hf2 := frozen_of_blk hbl2 0)
      | fail)
  all_goals go_wp2
  all_goals
    go_end0
    exact ⟨rfl, A2, c2, HD.out.step hb1 (kept_none (below_none hb1) hown) hown2 hg2 hat2 hbl2 hlen hsm⟩
theorem Wr.low {base p B : Nat} {W0 w : World} {S : Nat → Prop} {l : List Nat} {A : Option Addr} {c : Nat} (h : Wr base W0 S p l w A c) (hB : B ≤ W0.heap.size) (hS : ∀ b, S b → B ≤ b) : Below B W0 w := h.only.below hB hS
set_option maxHeartbeats 2000000 in
theorem wbytes_any (d : List Nat) (A1 : Option Addr) (c1 : Nat) (B : Nat) {base : Nat} {W0 : World} {S : Nat → Prop} {p : Nat} {l : List Nat} {w : World} (h : WrE base W0 S p l w) (hd : Bytes W0 B A1 d) (hB : B ≤ W0.heap.size) (hS : ∀ b, S b → B ≤ b) (hl : l.length ≤ 90000) (hdl : d.length ≤ 255) :
    Calls Tryz.prog 133 #[.pointer (some ⟨p, 0, none⟩), .slice A1 d.length c1] w fun e w' => e = .returned (.tuple #[]) ∧ WrE base W0 S p (l ++ lenL d) w' := by
  obtain ⟨i0, hi0, hz0, hz1, hz2⟩ := info_parts u8_info
  have cn := wnum_any d.length 1 (by omega) (by omega) (by omega) h (by omega)
  have v1 : IntKind.u64.wrap (d.length : Int) = (d.length : Int) := by rw [IntKind.wrap_u64]; omega
  have hLL : l ++ lenL d = (l ++ putF 1 d.length) ++ d := by unfold lenL; rw [List.append_assoc]
  rw [hLL]
  clear hLL h
  go_enter Tryz.func133, Tryz.ntmps133
  go_wp2_with fail
  refine cn.mono ?_
  rintro e w1 ⟨rfl, A, c, hw⟩
  clear cn
  have hll : (l ++ putF 1 d.length).length ≤ 100000 := by rw [List.length_append, putF_length]; omega
  generalize hl1 : l ++ putF 1 d.length = l1 at *
  have HL1 := Lib.hid hl1
  clear hl1
  have hb := hw.blk
  have hc := hb.cell 0
  have hby := hd.below (hw.low hB hS)
  have hbase : base ≤ w1.heap.size := Nat.le_trans hw.bas hw.only.size
  have hown := hw.own
  have hpw := hw.pw
  have HW := Lib.hid hw
  clear hw hd
  go_wp2_with (at_builtin; refine wpList_append_at2 rfl _ _ 45 45 rfl base 5 i0 _ 1 Tryz.underlying45 Tryz.underlying45 hi0 hz0 hz1 hz2 rfl (.slice A l1.length c) l1.length (l1.map byteV) rfl hown B A1 d.length c1 (d.map byteV) rfl (by rw [List.length_map]) hby.1 (bytes_oneCell _) (by unfold maxLen; omega) (by omega) hbase ?_; intro A2 c2 w2 hown2 hg2 hat2; have hbl2 : w2.heap[p]? = some (.cells #[.slice A l1.length c] 163 (0, 0)) := (hg2.block p hpw ((own_block (by decide) hown hb).elim (fun e => by rw [e]; simp) Ne.symm)).trans hb; have hc2 := cell_of_blk hbl2; have hf2 := frozen_of_blk hbl2 0)
  go_end0
  exact ⟨rfl, by rw [HL1.out]; exact ⟨A2, c2, HW.out.step (Below.refl _ _) hown hown2 hg2 hat2 hbl2 rfl hby.2⟩⟩
theorem WrE.boxed {base p B : Nat} {W0 w : World} {S : Nat → Prop} {l : List Nat} (h : WrE base W0 S p l w) (hB : B ≤ W0.heap.size) (hS : ∀ b, S b → B ≤ b) (o : Obj) :
    ∃ S', WrE base (w.alloc o) S' p l (w.alloc o) ∧ (∀ b, S' b → b < w.heap.size) ∧ (∀ b, S' b → B ≤ b) ∧ Below B W0 (w.alloc o) ∧ B ≤ (w.alloc o).heap.size ∧ (∀ l' w', WrE base (w.alloc o) S' p l' w' → WrE base W0 S p l' w') := by
  obtain ⟨A, c, h⟩ := h
  obtain ⟨h1, h2⟩ := h.rebase o
  have hb := (Below.refl w.heap.size w).alloc (Nat.le_refl _) o
  refine ⟨_, ⟨A, c, h1⟩, fun b q => (h2 b q).1, fun b q => ?_, (h.low hB hS).trans (hb.mono (Nat.le_trans hB h.only.size)), Nat.le_trans hB (Nat.le_trans h.only.size hb.size), ?_⟩
  · rcases (h2 b q).2 with z | z
    · exact hS b z
    · omega
  · rintro l' w' ⟨A', c', h'⟩
    exact ⟨A', c', Wr.back h.only hb (fun b q => (h2 b q).2) h.sp h.bas h.plt h'⟩
theorem load_chg0 {w : World} {g : Nat} {c : ChgP} {m : ChgM} (h : Blk w g 47 (chgV c m)) : (Instr.loadAt 47 (.pointer (some ⟨g, 0, none⟩))).run Tryz.prog w = .ok (.agg (chgV c m)) w :=
  run_load_blk h 0 47 (chgV c m).toList _ (fun j v hv => by rw [Nat.zero_add]; simpa using hv) Tryz.underlying47 rfl size_chg
set_option maxHeartbeats 4000000 in
theorem wchange_any (ch : ChgP) (m : ChgM) (B : Nat) {base : Nat} {W0 : World} {S : Nat → Prop} {p : Nat} {l : List Nat} {w : World} (h : WrE base W0 S p l w) (hd : ChgAt W0 B ch m) (hB : B ≤ W0.heap.size) (hS : ∀ b, S b → B ≤ b) (hl : l.length ≤ 80000) (hb1 : ch.before.length ≤ 255) (hb2 : ch.after.length ≤ 255) :
    Calls Tryz.prog 110 #[.pointer (some ⟨p, 0, none⟩), .agg (chgV ch m)] w fun e w' => e = .returned (.tuple #[]) ∧ WrE base W0 S p (l ++ chgL ch) w' := by
  obtain ⟨S', h1, hs1, hs2, hb, hB1, hback⟩ := h.boxed hB hS (.cells (chgV ch m) 47)
  have kb := Blk.new w 47 (chgV ch m)
  have hd1 := hd.below hb
  have HBK := Lib.hid hback
  have hnb : ¬ S' w.heap.size := fun q => by have := hs1 _ q; omega
  have hLL : l ++ chgL ch = ((((l ++ putF 4 ch.page) ++ putF 2 ch.slot) ++ putF 1 (flagsN ch)) ++ lenL ch.before) ++ lenL ch.after := by unfold chgL; simp only [List.append_assoc]
  rw [hLL]
  have hfl : flagsN ch < 4 := by unfold flagsN; split <;> split <;> omega
  obtain ⟨hp32, hs16, -, -⟩ := hd.fits
  clear h hd hb hback hLL
  go_enter Tryz.func110, Tryz.ntmps110
  go_upto_region 1 with fail
  generalize World.alloc w _ = w1 at *
  have hk : ∀ W, Only S' w1 W → Blk W w.heap.size 47 (chgV ch m) := fun W hW => kb.only hW hnb
  have v4 : IntKind.u64.wrap (ch.page : Int) = (ch.page : Int) := by rw [IntKind.wrap_u64]; omega
  have v2 : IntKind.u64.wrap (ch.slot : Int) = (ch.slot : Int) := by rw [IntKind.wrap_u64]; omega
  have kc := ChgBox.of kb
  have q0 := kc.k0
  have cn := wnum_any ch.page 4 (by omega) (by omega) (by omega) h1 (by omega)
  clear kc h1 kb
  go_wp2_with fail
  refine cn.mono ?_
  rintro e w2 ⟨rfl, h2⟩
  have hO2 : Only S' w1 w2 := by obtain ⟨A, c, z⟩ := h2; exact z.only
  have kc := ChgBox.of (hk w2 hO2)
  have q1 := kc.k1
  have cn2 := wnum_any ch.slot 2 (by omega) (by omega) (by omega) h2 (by rw [List.length_append, putF_length]; omega)
  clear cn q0 kc h2 hO2
  go_wp2_with fail
  refine cn2.mono ?_
  rintro e w3 ⟨rfl, h3⟩
  have hO3 : Only S' w1 w3 := by obtain ⟨A, c, z⟩ := h3; exact z.only
  have ld := load_chg0 (hk w3 hO3)
  have cf := flags_any ch m w3
  clear cn2 q1
  go_wp2_with (refine wpList_load_run rfl 47 (.tmp 3) _ _ rfl rfl ld ?_; clear ld)
  refine cf.mono ?_
  rintro e w4 ⟨rfl, b4⟩
  have h4 : WrE base w1 S' p ((l ++ putF 4 ch.page) ++ putF 2 ch.slot) w4 := by obtain ⟨A, c, z⟩ := h3; exact ⟨A, c, z.below b4⟩
  have cn4 := wnum_any (flagsN ch) 1 (by omega) (by omega) (by omega) h4 (by rw [List.length_append, List.length_append, putF_length, putF_length]; omega)
  clear cf b4 h3 h4 hO3
  go_wp2_with fail
  refine cn4.mono ?_
  rintro e w5 ⟨rfl, h5⟩
  have hO5 : Only S' w1 w5 := by obtain ⟨A, c, z⟩ := h5; exact z.only
  have q4 := (ChgBox.of (hk w5 hO5)).k4
  have cb5 := wbytes_any ch.before m.A1 m.c1 B h5 hd1.bef hB1 hs2 (by simp only [List.length_append, putF_length]; omega) hb1
  clear cn4 h5 hO5
  go_wp2_with fail
  refine cb5.mono ?_
  rintro e w6 ⟨rfl, h6⟩
  have hO6 : Only S' w1 w6 := by obtain ⟨A, c, z⟩ := h6; exact z.only
  have q5 := (ChgBox.of (hk w6 hO6)).k5
  have cb6 := wbytes_any ch.after m.A2 m.c2 B h6 hd1.aft hB1 hs2 (by simp only [List.length_append, putF_length, lenL_length]; omega) hb2
  clear cb5 h6 hO6 q4
  go_wp2_with fail
  refine cb6.mono ?_
  rintro e w7 ⟨rfl, h7⟩
  have FIN := Lib.hid (HBK.out _ _ h7)
  clear cb6 h7 q5
  go_wp2
  go_end0
  exact ⟨rfl, FIN.out⟩
theorem WrE.only {base p : Nat} {W0 w : World} {S : Nat → Prop} {l : List Nat} (h : WrE base W0 S p l w) : Only S W0 w := by obtain ⟨A, c, z⟩ := h; exact z.only
theorem size_tx : (Tryz.prog.info? 145).map (·.size) = some 4 := by kernel_rfl
theorem size_dir : (Tryz.prog.info? 147).map (·.size) = some 2 := by kernel_rfl
theorem load_tx {w : World} {b o : Nat} {x : TxP} (c0 : w.cell? ⟨b, o, none⟩ = some (.int .u32 (x.txn : Nat))) (c1 : w.cell? ⟨b, o + 1, none⟩ = some (.int .u64 (x.last : Nat))) (c2 : w.cell? ⟨b, o + 2, none⟩ = some (.int .u64 (x.undo : Nat))) (c3 : w.cell? ⟨b, o + 3, none⟩ = some (.int .u8 (x.state : Nat))) :
    (Instr.loadAt 145 (.pointer (some ⟨b, o, none⟩))).run Tryz.prog w = .ok (.agg (txV x)) w :=
  run_load_cells 145 (txV x).toList _ (fun j v hv => by
    match j with
    | 0 => rw [Nat.add_zero]; exact c0.trans hv
    | 1 => exact c1.trans hv
    | 2 => exact c2.trans hv
    | 3 => exact c3.trans hv
    | j + 4 => cases hv) Tryz.underlying145 rfl size_tx
theorem store_tx (w : World) (x : TxP) : (Instr.storeAt 145 (.pointer (some ⟨w.heap.size, 0, none⟩)) (.agg (txV x))).run Tryz.prog (w.alloc (.cells #[.int .u32 0, .int .u64 0, .int .u64 0, .int .u8 0] 145)) = .ok () (w.alloc (.cells (txV x) 145)) :=
  run_storeAt_new w 145 _ (txV x) size_tx rfl (by simp [txV, Value.oneCell'])
def dirV (x : DirP) : Array Value := #[.int .u32 (x.page : Nat), .int .u64 (x.first : Nat)]
theorem load_dir {w : World} {b o : Nat} {x : DirP} (c0 : w.cell? ⟨b, o, none⟩ = some (.int .u32 (x.page : Nat))) (c1 : w.cell? ⟨b, o + 1, none⟩ = some (.int .u64 (x.first : Nat))) :
    (Instr.loadAt 147 (.pointer (some ⟨b, o, none⟩))).run Tryz.prog w = .ok (.agg (dirV x)) w :=
  run_load_cells 147 (dirV x).toList _ (fun j v hv => by
    match j with
    | 0 => rw [Nat.add_zero]; exact c0.trans hv
    | 1 => exact c1.trans hv
    | j + 2 => cases hv) Tryz.underlying147 rfl size_dir
theorem store_dir (w : World) (x : DirP) : (Instr.storeAt 147 (.pointer (some ⟨w.heap.size, 0, none⟩)) (.agg (dirV x))).run Tryz.prog (w.alloc (.cells #[.int .u32 0, .int .u64 0] 147)) = .ok () (w.alloc (.cells (dirV x) 147)) :=
  run_storeAt_new w 147 _ (dirV x) size_dir rfl (by simp [dirV, Value.oneCell'])
theorem tx_next (l : List Nat) (t : List TxP) (k : Nat) (h : k < t.length) : l ++ (t.take (k + 1)).flatMap txL = (((l ++ (t.take k).flatMap txL) ++ putF 4 t[k].txn) ++ putF 8 t[k].last) ++ putF 8 t[k].undo ++ putF 1 t[k].state := by
  rw [List.take_succ_eq_append_getElem h, List.flatMap_append]
  simp [txL]
theorem dir_next (l : List Nat) (t : List DirP) (k : Nat) (h : k < t.length) : l ++ (t.take (k + 1)).flatMap dirL = ((l ++ (t.take k).flatMap dirL) ++ putF 4 t[k].page) ++ putF 8 t[k].first := by
  rw [List.take_succ_eq_append_getElem h, List.flatMap_append]
  simp [dirL]
theorem txs_len (t : List TxP) (k : Nat) : ((t.take k).flatMap txL).length ≤ 21 * t.length := by
  rw [txLs_length, List.length_take]; omega
theorem dirs_len (t : List DirP) (k : Nat) : ((t.take k).flatMap dirL).length ≤ 12 * t.length := by
  rw [dirLs_length, List.length_take]; omega
set_option maxHeartbeats 8000000 in
theorem wtables_any (r : RecP) (m : RecMm) (B : Nat) {base : Nat} {W0 : World} {S : Nat → Prop} {p : Nat} {l : List Nat} {w : World} (h : WrE base W0 S p l w) (hd : RecAt W0 B r m) (hB : B ≤ W0.heap.size) (hS : ∀ b, S b → B ≤ b) (hl : l.length ≤ 1000) (hn1 : r.txns.length ≤ 64) (hn2 : r.pages.length ≤ 64) :
    Calls Tryz.prog 111 #[.pointer (some ⟨p, 0, none⟩), .agg (recA r m)] w fun e w' => e = .returned (.tuple #[]) ∧ WrE base W0 S p (l ++ tabL r) w' := by
  obtain ⟨S', h1, hs1, hs2, hb, hB1, hback⟩ := h.boxed hB hS (.cells (recA r m) 51)
  have kb := Blk.new w 51 (recA r m)
  have hd1 := hd.below hb
  have HBK := Lib.hid hback
  have hnb : ¬ S' w.heap.size := fun q => by have := hs1 _ q; omega
  have hLL : l ++ tabL r = ((l ++ putF 1 r.txns.length) ++ r.txns.flatMap txL ++ putF 1 r.pages.length) ++ r.pages.flatMap dirL := by unfold tabL; simp only [List.append_assoc]
  have HLL := Lib.hid hLL
  have htf := hd.fits.txns
  have hpf := hd.fits.pages
  clear h hd hb hback hLL
  obtain ⟨nt, hnt⟩ : ∃ nt, r.txns.length = nt := ⟨_, rfl⟩
  obtain ⟨np, hnp⟩ : ∃ np, r.pages.length = np := ⟨_, rfl⟩
  have HN := Lib.hid (And.intro hnt hnp)
  go_enter Tryz.func111, Tryz.ntmps111
  go_upto_region 1 with fail
  generalize World.alloc w _ = w1 at *
  have hk : ∀ W, Only S' w1 W → RecBox W w.heap.size r m := fun W hW => RecBox.of (kb.only hW hnb)
  have hlow : ∀ W, Only S' w1 W → Below B w1 W := fun W hW => hW.below hB1 hs2
  have q10 := (RecBox.of kb).k10
  rw [hnt] at q10 hn1
  rw [hnp] at hn2
  have v1 : IntKind.u64.wrap (nt : Int) = (nt : Int) := by rw [IntKind.wrap_u64]; omega
  have v2 : IntKind.u64.wrap (np : Int) = (np : Int) := by rw [IntKind.wrap_u64]; omega
  have cn := wnum_any nt 1 (by omega) (by omega) (by omega) h1 (by omega)
  clear h1 kb hnt hnp
  go_wp2_with fail
  refine cn.mono ?_
  rintro e w2 ⟨rfl, h2⟩
  have q10' := (hk w2 h2.only).k10
  rw [HN.out.1] at q10'
  have hl1 : (l ++ putF 1 nt).length ≤ 1001 := by rw [List.length_append, putF_length]; omega
  generalize hll1 : l ++ putF 1 nt = l1 at *
  have HL1 := Lib.hid hll1
  clear cn q10 hll1
  go_wp2_with fail
  go_loopw [17, 5] (fun iv _ wr => ∃ k : Nat, k ≤ nt ∧ iv = .int .i64 k ∧ WrE base w1 S' p (l1 ++ (r.txns.take k).flatMap txL) wr) (fun iv _ _ => nt - (intOf iv).toNat)
  case atStart => exact ⟨0, Nat.zero_le _, rfl, by simpa using h2⟩
  case round =>
    clear h2 q10'
    obtain ⟨k, hkn, rfl, hw⟩ := hrel
    rcases Nat.lt_or_ge k nt with hlt | hge
    · have e1 : decide ((k : Int) < (nt : Int)) = true := by rw [decide_eq_true_iff]; omega
      have e2 : (0 : Int) ≤ (k : Int) := by omega
      have e3 : (k : Int) < (nt : Int) := by omega
      have hkl : k < r.txns.length := by rw [HN.out.1]; exact hlt
      obtain ⟨b, o, hA3, hbB, c0, c1, c2, c3⟩ := (hd1.txs.below (hlow wr hw.only)) k hkl
      have hnx := tx_next l1 r.txns k hkl
      have hlen := txs_len r.txns k
      rw [HN.out.1] at hlen
      have hfit := htf _ (List.getElem_mem hkl)
      rw [hA3]
      obtain ⟨S2, h1, hs1', hs2', hb', hB1', hback'⟩ := hw.boxed hB1 hs2 (.cells (txV r.txns[k]) 145)
      have kt := Blk.new wr 145 (txV r.txns[k])
      have hnb' : ¬ S2 wr.heap.size := fun q => by have := hs1' _ q; omega
      generalize (r.txns.take k).flatMap txL = tl at *
      generalize r.txns[k] = x at *
      obtain ⟨f0, f1, f2, f3⟩ := hfit
      have ld := load_tx c0 c1 c2 c3
      have st := store_tx wr x
      have HX := Lib.hid (And.intro hnx hback')
      have hl2 : (l1 ++ tl).length ≤ 3000 := by rw [List.length_append]; omega
      have v4 : IntKind.u64.wrap (x.txn : Int) = (x.txn : Int) := by rw [IntKind.wrap_u64]; omega
      have v5 : IntKind.u64.wrap (x.state : Int) = (x.state : Int) := by rw [IntKind.wrap_u64]; omega
      generalize l1 ++ tl = l2 at *
      clear hnx hback' hw c0 c1 c2 c3 hb'
      go_upto_region 5 with (first | (refine wpList_load_run rfl 145 (.tmp 19) _ _ rfl rfl ld ?_; clear ld) | (refine wpList_store_run rfl 145 (.tmp 5) (.tmp 20) _ _ rfl rfl rfl st ?_; clear st))
      have hkt : ∀ W, Only S2 (wr.alloc (.cells (txV x) 145)) W → Blk W wr.heap.size 145 (txV x) := fun W hW => kt.only hW hnb'
      generalize World.alloc wr _ = w3 at *
      have p0 : w3.cell? ⟨wr.heap.size, 0, none⟩ = some (.int .u32 (x.txn : Nat)) := kt.cell 0
      have cn1 := wnum_any x.txn 4 (by omega) (by omega) (by omega) h1 (by omega)
      clear kt h1
      go_wp2_with fail
      refine cn1.mono ?_
      rintro e w4 ⟨rfl, h4⟩
      have p1 : w4.cell? ⟨wr.heap.size, 1, none⟩ = some (.int .u64 (x.last : Nat)) := (hkt w4 h4.only).cell 1
      have cn2 := wnum_any x.last 8 f1 (by omega) (by omega) h4 (by rw [List.length_append, putF_length]; omega)
      clear cn1 p0 h4
      go_wp2_with fail
      refine cn2.mono ?_
      rintro e w5 ⟨rfl, h5⟩
      have p2 : w5.cell? ⟨wr.heap.size, 2, none⟩ = some (.int .u64 (x.undo : Nat)) := (hkt w5 h5.only).cell 2
      have cn3 := wnum_any x.undo 8 f2 (by omega) (by omega) h5 (by simp only [List.length_append, putF_length]; omega)
      clear cn2 p1 h5
      go_wp2_with fail
      refine cn3.mono ?_
      rintro e w6 ⟨rfl, h6⟩
      have p3 : w6.cell? ⟨wr.heap.size, 3, none⟩ = some (.int .u8 (x.state : Nat)) := (hkt w6 h6.only).cell 3
      have cn4 := wnum_any x.state 1 (by omega) (by omega) (by omega) h6 (by simp only [List.length_append, putF_length]; omega)
      clear cn3 p2 h6
      go_wp2_with fail
      refine cn4.mono ?_
      rintro e w7 ⟨rfl, h7⟩
      have FIN := Lib.hid (HX.out.2 _ _ h7)
      clear cn4 p3 h7 hkt
      go_wp2
      go_roundw
      case rel => exact ⟨k + 1, by omega, by go_num, by rw [HX.out.1]; exact FIN.out⟩
      case measure => simp [intOf]; omega
    · obtain rfl : k = nt := by omega
      have e1 : decide ((k : Int) < (k : Int)) = false := by rw [decide_eq_false_iff_not]; omega
      rw [List.take_of_length_le (by rw [HN.out.1]; omega)] at hw
      have hlen := txLs_length r.txns
      rw [HN.out.1] at hlen
      have q11 := (hk wr hw.only).k11
      rw [HN.out.2] at q11
      have hl3 : (l1 ++ r.txns.flatMap txL).length ≤ 2400 := by rw [List.length_append]; omega
      generalize hll3 : l1 ++ r.txns.flatMap txL = l3 at *
      have HL3 := Lib.hid hll3
      have cn := wnum_any np 1 (by omega) (by omega) (by omega) hw (by omega)
      clear hw hll3 hlen
      go_wp2_with fail
      refine cn.mono ?_
      rintro e w2 ⟨rfl, h2⟩
      have q11' := (hk w2 h2.only).k11
      rw [HN.out.2] at q11'
      have hl4 : (l3 ++ putF 1 np).length ≤ 2401 := by rw [List.length_append, putF_length]; omega
      generalize hll4 : l3 ++ putF 1 np = l4 at *
      have HL4 := Lib.hid hll4
      clear cn q11 hll4
      go_wp2_with fail
      go_loopw [49, 7] (fun iv _ wr => ∃ j : Nat, j ≤ np ∧ iv = .int .i64 j ∧ WrE base w1 S' p (l4 ++ (r.pages.take j).flatMap dirL) wr) (fun iv _ _ => np - (intOf iv).toNat)
      case atStart => exact ⟨0, Nat.zero_le _, rfl, by simpa using h2⟩
      case round =>
        clear h2 q11'
        obtain ⟨j, hjn, rfl, hw⟩ := hrel
        rename World => wq
        rcases Nat.lt_or_ge j np with hlt | hge
        · have e1 : decide ((j : Int) < (np : Int)) = true := by rw [decide_eq_true_iff]; omega
          have e2 : (0 : Int) ≤ (j : Int) := by omega
          have e3 : (j : Int) < (np : Int) := by omega
          have hjl : j < r.pages.length := by rw [HN.out.2]; exact hlt
          obtain ⟨b, o, hA4, hbB, c0, c1⟩ := (hd1.dirs.below (hlow wq hw.only)) j hjl
          have hnx := dir_next l4 r.pages j hjl
          have hlen := dirs_len r.pages j
          rw [HN.out.2] at hlen
          have hfit := hpf _ (List.getElem_mem hjl)
          rw [hA4]
          obtain ⟨S2, h1, hs1', hs2', hb', hB1', hback'⟩ := hw.boxed hB1 hs2 (.cells (dirV r.pages[j]) 147)
          have kt := Blk.new wq 147 (dirV r.pages[j])
          have hnb' : ¬ S2 wq.heap.size := fun q => by have := hs1' _ q; omega
          generalize (r.pages.take j).flatMap dirL = tl at *
          generalize r.pages[j] = x at *
          obtain ⟨f0, f1⟩ := hfit
          have ld := load_dir c0 c1
          have st := store_dir wq x
          have HX := Lib.hid (And.intro hnx hback')
          have hl2 : (l4 ++ tl).length ≤ 4000 := by rw [List.length_append]; omega
          have v4 : IntKind.u64.wrap (x.page : Int) = (x.page : Int) := by rw [IntKind.wrap_u64]; omega
          generalize l4 ++ tl = l2 at *
          clear hnx hback' hw c0 c1 hb'
          go_upto_region 14 with (first | (refine wpList_load_run rfl 147 (.tmp 51) _ _ rfl rfl ld ?_; clear ld) | (refine wpList_store_run rfl 147 (.tmp 7) (.tmp 52) _ _ rfl rfl rfl st ?_; clear st))
          have hkt : ∀ W, Only S2 (wq.alloc (.cells (dirV x) 147)) W → Blk W wq.heap.size 147 (dirV x) := fun W hW => kt.only hW hnb'
          generalize World.alloc wq _ = w3 at *
          have p0 : w3.cell? ⟨wq.heap.size, 0, none⟩ = some (.int .u32 (x.page : Nat)) := kt.cell 0
          have cn1 := wnum_any x.page 4 (by omega) (by omega) (by omega) h1 (by omega)
          clear kt h1
          go_wp2_with fail
          refine cn1.mono ?_
          rintro e w4 ⟨rfl, h4⟩
          have p1 : w4.cell? ⟨wq.heap.size, 1, none⟩ = some (.int .u64 (x.first : Nat)) := (hkt w4 h4.only).cell 1
          have cn2 := wnum_any x.first 8 f1 (by omega) (by omega) h4 (by rw [List.length_append, putF_length]; omega)
          clear cn1 p0 h4
          go_wp2_with fail
          refine cn2.mono ?_
          rintro e w5 ⟨rfl, h5⟩
          have FIN := Lib.hid (HX.out.2 _ _ h5)
          clear cn2 p1 h5 hkt
          go_wp2
          go_roundw
          case rel => exact ⟨j + 1, by omega, by go_num, by rw [HX.out.1]; exact FIN.out⟩
          case measure => simp [intOf]; omega
        · obtain rfl : j = np := by omega
          have e1 : decide ((j : Int) < (j : Int)) = false := by rw [decide_eq_false_iff_not]; omega
          rw [List.take_of_length_le (by rw [HN.out.2]; omega)] at hw
          have FIN : Hid (WrE base W0 S p (l ++ tabL r) wq) := Lib.hid (by
            rw [HLL.out, HN.out.1, HN.out.2, HL1.out, HL3.out, HL4.out]
            exact HBK.out _ _ hw)
          clear hw
          go_wp2
          go_end0
          exact ⟨rfl, FIN.out⟩
def EncPost (r : RecP) (w : World) (e : Ending) (w' : World) : Prop :=
  Below w.heap.size w w' ∧ ((okR r = true ∧ ∃ A c, e = .returned (.tuple #[.slice A (encL r).length c, .int .u16 0]) ∧ w'.ownsRow w.heap.size 5 1 (.slice A (encL r).length c) (encL r).length ((encL r).map byteV)) ∨
    (okR r = false ∧ e = .returned (.tuple #[.slice none 0 0, .int .u16 61])))
theorem u8_one : (Tryz.prog.info? 5).map (·.size) = some 1 := by kernel_rfl
theorem zeros6 : (madeCells (Value.int .u8 0).cells (6 * 1)).toList = (List.replicate 6 0).map byteV := by
  rw [List.map_replicate]
  exact toList_madeCells_one _ 6
set_option maxHeartbeats 16000000 in
theorem encode_any (r : RecP) (m : RecMm) (B : Nat) (w : World) (h : RecAt w B r m) (hB : B ≤ w.heap.size) :
    Calls Tryz.prog 67 #[.agg (recA r m)] w (EncPost r w) := by
  obtain ⟨i0, hi0, hz0, hz1, hz2⟩ := info_parts u8_info
  have kb := Blk.new w 51 (recA r m)
  have hb := below_alloc w (.cells (recA r m) 51)
  have hfit := h.fits
  have hfit' := h.fits
  go_enter Tryz.func67, Tryz.ntmps67
  go_upto_region 1 with fail
  generalize World.alloc w _ = w1 at *
  have ld := load_rec kb
  have hR1 := h.below (hb.mono hB)
  have cm := may_any r m B w1 hR1 (Nat.le_trans hB hb.size)
  go_wp2_with (refine wpList_load_run rfl 51 (.tmp 1) _ _ rfl rfl ld ?_; clear ld)
  refine cm.mono ?_
  rintro e w2 ⟨rfl, b2⟩
  have kb2 := kb.below b2 kb.lt
  have hR2 := hR1.below (b2.mono (Nat.le_trans hB hb.size))
  have hb2 := hb.trans (b2.mono hb.size)
  have hgt : w.heap.size < w2.heap.size := Nat.lt_of_lt_of_le kb.lt b2.size
  clear cm kb hb b2 hR1 h
  cases hok : okR r
  · have FIN : Hid (EncPost r w (.returned (.tuple #[.slice none 0 0, .int .u16 61])) w2) := Lib.hid ⟨hb2, .inr ⟨hok, rfl⟩⟩
    clear hok kb2 hR2 hb2
    go_wp2
    go_ret2
    exact FIN.out
  · obtain ⟨hl1, hl2⟩ := bodyL_length hok
    obtain ⟨hn1, hn2, hn3, hn4⟩ := okR_lens hok
    have HOK := Lib.hid hok
    clear hok
    go_upto_region 4 with (at_make; refine wpList_make_full _ rfl _ _ 45 rfl w2.heap.size 5 i0 _ 1 Tryz.underlying45 hi0 hz0 hz1 .i64 .i64 _ _ 6 rfl rfl rfl rfl (by rw [hz2]; omega) (by unfold maxLen; omega) (Nat.le_refl _) ?_; intro w3 hown3 hg3)
    have hb3 : Below w2.heap.size w2 w3 := (Below.refl _ _).grown hg3 (Nat.le_refl _) (by simp)
    rw [zeros6] at hown3
    have hg2 : w2.heap.size < w3.heap.size := (hown3.lt w2.heap.size rfl).2
    have hbx := below_alloc w3 (.cells #[.slice (some ⟨w2.heap.size, 0, none⟩) 6 6] 163)
    have hW : WrE w.heap.size (w3.alloc (.cells #[.slice (some ⟨w2.heap.size, 0, none⟩) 6 6] 163)) (fun b => b = w3.heap.size ∨ b = w2.heap.size) w3.heap.size (List.replicate 6 0) (w3.alloc (.cells #[.slice (some ⟨w2.heap.size, 0, none⟩) 6 6] 163)) :=
      ⟨some ⟨w2.heap.size, 0, none⟩, 6, Blk.new w3 _ _, kept_none (below_none hbx) (own_base hb2.size hown3), fun k hk => .inl (.inr (by injection hk with hk; exact hk.symm)), Only.refl _ _, .inl rfl, by have := hbx.size; omega, (Blk.new w3 163 #[.slice (some ⟨w2.heap.size, 0, none⟩) 6 6]).lt, fun x hx => by rw [(List.mem_replicate.1 hx).2]; omega⟩
    have kb4 := (kb2.below hb3 kb2.lt).below hbx (kb2.below hb3 kb2.lt).lt
    have hR4 := (hR2.below (hb3.mono (by omega))).below (hbx.mono (by omega))
    have hb4 := (hb2.trans (hb3.mono hb2.size)).trans (hbx.mono (by omega))
    have hS : ∀ b, (b = w3.heap.size ∨ b = w2.heap.size) → w.heap.size < b := fun b q => by omega
    have hne32 : w3.heap.size ≠ w2.heap.size := by omega
    clear hown3 hg3 hb3 hbx kb2 hR2 hb2
    generalize World.alloc w3 _ = W0 at *
    generalize w3.heap.size = p at *
    generalize w2.heap.size = g0 at *
    have hk : ∀ W, Only (fun b => b = p ∨ b = g0) W0 W → RecBox W w.heap.size r m := fun W hW => RecBox.of (kb4.only hW (fun q => by have := hS _ q; omega))
    have hkb : ∀ W, Only (fun b => b = p ∨ b = g0) W0 W → Blk W w.heap.size 51 (recA r m) := fun W hW => kb4.only hW (fun q => by have := hS _ q; omega)
    have hB4 : B ≤ W0.heap.size := Nat.le_trans hB hb4.size
    have hS2 : ∀ b, (b = p ∨ b = g0) → B ≤ b := fun b q => by have := hS b q; omega
    obtain ⟨f0, f1, f2, f3, -, -, -⟩ := hfit
    have q0 := (RecBox.of kb4).k0
    have v1 : IntKind.u64.wrap (r.kind : Int) = (r.kind : Int) := by rw [IntKind.wrap_u64]; omega
    have v2 : IntKind.u64.wrap (r.txn : Int) = (r.txn : Int) := by rw [IntKind.wrap_u64]; omega
    have cn1 := wnum_any r.kind 1 (by omega) (by omega) (by omega) hW (by simp)
    clear kb4 hW
    go_wp2_with fail
    refine cn1.mono ?_
    rintro e w4 ⟨rfl, h4⟩
    have q1 := (hk w4 h4.only).k1
    have cn2 := wnum_any r.txn 4 (by omega) (by omega) (by omega) h4 (by simp [putF_length])
    clear cn1 q0 h4
    go_wp2_with fail
    refine cn2.mono ?_
    rintro e w5 ⟨rfl, h5⟩
    have q2 := (hk w5 h5.only).k2
    have cn3 := wnum_any r.prev 8 f2 (by omega) (by omega) h5 (by simp [putF_length])
    clear cn2 q1 h5
    go_wp2_with fail
    refine cn3.mono ?_
    rintro e w6 ⟨rfl, h6⟩
    have q3 := (hk w6 h6.only).k3
    have cn4 := wnum_any r.next 8 f3 (by omega) (by omega) h6 (by simp [putF_length])
    clear cn3 q2 h6
    go_wp2_with fail
    refine cn4.mono ?_
    rintro e w7 ⟨rfl, h7⟩
    have hll : (((List.replicate 6 0 ++ putF 1 r.kind) ++ putF 4 r.txn) ++ putF 8 r.prev) ++ putF 8 r.next = List.replicate 6 0 ++ headB r := by unfold headB; simp only [List.append_assoc]
    rw [hll] at h7
    have hhl := headB_length r
    have ld := load_rec (hkb w7 h7.only)
    have cc := changes_any r m w7
    clear cn4 q3 hll
    have hbody : List.replicate 6 0 ++ bodyL r = (List.replicate 6 0 ++ headB r) ++ (if chgs r.kind = true then chgL r.chg else if r.kind = 8 then tabL r else []) := by unfold bodyL; rw [List.append_assoc]
    have HBODY := Lib.hid hbody
    clear hbody
    go_upto_block 0 with fail
    go_cut [] (fun wx => WrE w.heap.size W0 (fun b => b = p ∨ b = g0) p (List.replicate 6 0 ++ bodyL r) wx)
    case first =>
      go_wp2_with (refine wpList_load_run rfl 51 (.tmp 1) _ _ rfl rfl ld ?_; clear ld)
      refine cc.mono ?_
      rintro e w8 ⟨rfl, b8⟩
      have h8 : WrE w.heap.size W0 (fun b => b = p ∨ b = g0) p (List.replicate 6 0 ++ headB r) w8 := by obtain ⟨A, c, z⟩ := h7; exact ⟨A, c, z.below b8⟩
      have hl27 : (List.replicate 6 0 ++ headB r).length = 27 := by rw [List.length_append, hhl]; rfl
      clear cc b8 h7
      cases hch : chgs r.kind
      · have q0 := (hk w8 h8.only).k0
        by_cases hk8 : r.kind = 8
        · have HB2 : Hid (List.replicate 6 0 ++ bodyL r = (List.replicate 6 0 ++ headB r) ++ tabL r) := Lib.hid (by rw [HBODY.out, hch, if_neg (by simp), if_pos hk8])
          have t1 : ((r.kind : Int) == 8) = true := by rw [beq_iff_eq]; omega
          have ld := load_rec (hkb w8 h8.only)
          have ct := wtables_any r m B h8 hR4 hB4 hS2 (by rw [hl27]; omega) hn1 hn2
          clear hk8 h8 hch
          go_wp2_with (refine wpList_load_run rfl 51 (.tmp 1) _ _ rfl rfl ld ?_; clear ld)
          refine ct.mono ?_
          rintro e w9 ⟨rfl, h9⟩
          have FIN := Lib.hid h9
          clear ct h9
          go_wp2
          go_meet
          case rel => rw [HB2.out]; exact FIN.out
        · have HB2 : Hid (List.replicate 6 0 ++ bodyL r = List.replicate 6 0 ++ headB r) := Lib.hid (by rw [HBODY.out, hch, if_neg (by simp), if_neg hk8, List.append_nil])
          have t1 : ((r.kind : Int) == 8) = false := by rw [beq_eq_false_iff_ne]; omega
          have FIN := Lib.hid h8
          clear hk8 h8 hch
          go_wp2
          go_meet
          case rel => rw [HB2.out]; exact FIN.out
      · have HB2 : Hid (List.replicate 6 0 ++ bodyL r = (List.replicate 6 0 ++ headB r) ++ chgL r.chg) := Lib.hid (by rw [HBODY.out, hch, if_pos rfl])
        have ld := load_chg (hkb w8 h8.only)
        have ct := wchange_any r.chg m.cm B h8 hR4.chg hB4 hS2 (by rw [hl27]; omega) (by omega) (by omega)
        clear h8 hch
        go_wp2_with (refine wpList_load_run rfl 47 (.tmp 33) _ _ rfl rfl ld ?_; clear ld)
        refine ct.mono ?_
        rintro e w9 ⟨rfl, h9⟩
        have FIN := Lib.hid h9
        clear ct h9
        go_wp2
        go_meet
        case rel => rw [HB2.out]; exact FIN.out
    case rest =>
      have h10 := hcut
      clear hcut h7 ld cc hk hkb hR4 f0 f1 f2 f3 v1 v2
      rename World => wx
      obtain ⟨A, c, h10⟩ := h10
      have hbs := bodyL_small hfit'
      have HENC : Hid (encL r = putF 2 ((bodyL r).length + 6) ++ putF 4 (sumB (bodyL r)) ++ bodyL r) := Lib.hid rfl
      have hNl : (List.replicate 6 0 ++ bodyL r).length = (bodyL r).length + 6 := by rw [List.length_append, List.length_replicate]; omega
      have hbk := h10.blk
      have hown := h10.own
      have hbw : Below w.heap.size w wx := hb4.trans (h10.only.below hb4.size fun b q => by have := hS b q; omega)
      rw [hNl] at hbk hown
      have HEP : Hid (∀ w' c', Below w.heap.size w w' → w'.ownsRow w.heap.size 5 1 (.slice A (encL r).length c') (encL r).length ((encL r).map byteV) → EncPost r w (.returned (.tuple #[.slice A (encL r).length c', .int .u16 0])) w') := Lib.hid fun w' c' a b => ⟨a, .inl ⟨HOK.out, A, c', rfl, b⟩⟩
      have hEL := encL_length r
      generalize hbd : bodyL r = body at *
      obtain ⟨N, hN⟩ : ∃ N, body.length + 6 = N := ⟨_, rfl⟩
      rw [hN] at hbk hown hEL HENC
      have HN := Lib.hid hN
      have hN1 : 27 ≤ N ∧ N ≤ 2300 := by omega
      obtain ⟨g, rfl, hg1, hg2'⟩ := own_pos hown (by omega)
      have hNc : N ≤ c := by
        obtain ⟨A', c', e, h1, h2⟩ := own_form hown
        injection e with _ _ e
        omega
      have hpg : p ≠ g := by
        rcases own_block (by decide) hown hbk with z | z
        · simp [Value.ownBlock] at z
        · intro e; apply z; rw [e]; rfl
      have HBL := Lib.hid hbd
      clear h10 hNl hS hS2 hb4 hB4 hne32 hgt hbd hN hl1 hl2 hn1 hn2 hn3 hn4 hB hhl HBODY HOK hg2
      have hput := fun W => put_any N 2 W (by omega) (by omega) (by omega)
      rw [show putB N (2 : Int) = putF 2 N by unfold putB; rw [if_pos (by omega)]; rfl] at hput
      have vN : IntKind.u64.wrap (N : Int) = (N : Int) := by rw [IntKind.wrap_u64]; omega
      have hx0 : (List.map byteV (List.replicate 6 0 ++ body)).take 0 ++ (List.map byteV (putF 2 N)).take (min 2 N) ++ (List.map byteV (List.replicate 6 0 ++ body)).drop (0 + min 2 N) = (putF 2 N ++ (List.replicate 4 0 ++ body)).map byteV := by
        have : min 2 N = 2 := by omega
        rw [this, List.take_zero, List.nil_append, List.take_of_length_le (by rw [List.length_map, putF_length]; omega), ← List.map_drop, ← List.map_append]
        rfl
      go_upto_region 12 with fail
      go_cut [] (fun wy => Blk wy p 163 #[.slice (some ⟨g, 0, none⟩) N c] ∧ wy.ownsRow w.heap.size 5 1 (.slice (some ⟨g, 0, none⟩) N c) N ((putF 2 N ++ (List.replicate 4 0 ++ body)).map byteV) ∧ Below w.heap.size w wy)
      case first =>
        have hc := hbk.cell 0
        have hpw := hbk.lt
        have hbkd := hbk.drew
        have hownd : wx.drew.ownsRow w.heap.size 5 1 (.slice (some ⟨g, 0, none⟩) N c) N ((List.replicate 6 0 ++ body).map byteV) := hown
        have hbwd := hbw.drew
        have HX0 := Lib.hid hx0
        clear hx0 hbk hown hbw
        go_wp2_with fail
        go_region_law
          (first
            | (go_simp; go_at_call 112; refine (hput _).mono ?_; intro e w1 hret; obtain ⟨A1, c1, rfl, hown1, hb1, hx1⟩ := hret.is; clear hret; rw [putF_length]; have hbl1 := hbkd.below hb1 hpw; have hc1 := hbl1.cell 0)
            | (refine step_copy_at (by rfl) _ _ 45 45 (by rfl) 5 Tryz.underlying45 u8_one w.heap.size g 0 N c N c ((List.replicate 6 0 ++ body).map byteV) (by rfl) (kept_none (below_none hb1) hownd) (by omega) w1.heap.size A1 2 c1 ((putF 2 N).map byteV) (by rfl) (by rw [List.length_map, putF_length]) hx1.1 (bytes_oneCell _) ?_; intro w2 ho2 hg2; have hbl2 := hbl1.grown hg2 (by intro e; injection e with e; exact hpg e); have hbw2 := (hbwd.trans (hb1.mono hbwd.size)).trans (Below.grown (Below.refl _ _) hg2 (Nat.le_trans hbwd.size hb1.size) (fun k hk => by injection hk with hk; omega)); have hc2 := hbl2.cell 0)
            | fail)
        all_goals
          go_wp2
          go_meet
          case rel => exact ⟨hbl2, by rw [← HX0.out]; exact ho2, hbw2⟩
      case rest =>
        obtain ⟨hbk2, hown2, hbw2⟩ := hcut
        clear hx0 hbk hown hbw hput
        rename World => wy
        have hs2 : Small (putF 2 N ++ (List.replicate 4 0 ++ body)) := small_append (small_put _ _) (small_append (fun x hx => by rw [(List.mem_replicate.1 hx).2]; omega) hbs)
        have hby : Bytes wy wy.heap.size (some ⟨g, 0 + 6, none⟩) body := by
          have := (own_bytes hown2 hs2).drop 6
          exact this
        have hsl := sumB_lt hbs
        obtain ⟨s, hs⟩ : ∃ s, sumB body = s := ⟨_, rfl⟩
        have hput := fun W => put_any s 4 W (by omega) (by omega) (by omega)
        rw [show putB s (4 : Int) = putF 4 s by unfold putB; rw [if_pos (by omega)]; rfl] at hput
        have hsm : Calls Tryz.prog 113 #[.slice (some ⟨wy.heap.size, 0, none⟩) 1 1] (wy.alloc (.cells #[.slice (some ⟨g, 6, none⟩) (N - 6) (c - 6)] 45)).drew fun e w' => e = .returned (.int .u32 (s : Nat)) ∧ (wy.alloc (.cells #[.slice (some ⟨g, 6, none⟩) (N - 6) (c - 6)] 45)).drew = w' := by
          have hN6 : body.length = N - 6 := by have := HN.out; omega
          have ha : At (wy.alloc (.cells #[.slice (some ⟨g, 6, none⟩) (N - 6) (c - 6)] 45)) (wy.heap.size + 1) (some ⟨wy.heap.size, 0, none⟩) [.slice (some ⟨g, 6, none⟩) (N - 6) (c - 6)] := At.new wy _ _ (0, 0)
          rw [← hN6] at ha
          have hby6 : Bytes wy wy.heap.size (some ⟨g, 6, none⟩) body := hby
          have hbb : Bytes (wy.alloc (.cells #[.slice (some ⟨g, 6, none⟩) body.length (c - 6)] 45)).drew (wy.heap.size + 1) (some ⟨g, 6, none⟩) body := ((hby6.alloc (Nat.le_refl _) (.cells #[.slice (some ⟨g, 6, none⟩) body.length (c - 6)] 45)).more (show wy.heap.size ≤ wy.heap.size + 1 by omega))
          have := sum_any (some ⟨wy.heap.size, 0, none⟩) 1 [(some ⟨g, 6, none⟩, c - 6, body)] (wy.heap.size + 1) _ ha.drew (fun x hx => by
            rw [List.mem_singleton] at hx
            subst hx
            exact ⟨hbb, by show body.length ≤ 100000; omega⟩) (by simp)
          rw [hN6] at this
          have he : CrcMath.sumFrom 0 (allOf [(some ⟨g, 6, none⟩, c - 6, body)]) = s := by
            rw [← hs]
            unfold sumB allOf
            simp
          rw [he] at this
          exact this
        have vS : IntKind.u64.wrap (s : Int) = (s : Int) := by rw [IntKind.wrap_u64]; omega
        have hx0 : (List.map byteV (putF 2 N ++ (List.replicate 4 0 ++ body))).take 2 ++ (List.map byteV (putF 4 s)).take (min 4 (N - 2)) ++ (List.map byteV (putF 2 N ++ (List.replicate 4 0 ++ body))).drop (2 + min 4 (N - 2)) = (putF 2 N ++ putF 4 s ++ body).map byteV := by
          have : min 4 (N - 2) = 4 := by omega
          have e1 : (putF 2 N ++ (List.replicate 4 0 ++ body)).take 2 = putF 2 N := by rw [List.take_append_of_le_length (by rw [putF_length]; omega), List.take_of_length_le (by rw [putF_length]; omega)]
          have e2 : (putF 2 N ++ (List.replicate 4 0 ++ body)).drop 6 = body := rfl
          rw [this, List.take_of_length_le (l := List.map byteV (putF 4 s)) (by rw [List.length_map, putF_length]; omega), ← List.map_take, e1, ← List.map_drop, e2, ← List.map_append, ← List.map_append]
        have HENC2 : Hid (encL r = putF 2 N ++ putF 4 s ++ body) := Lib.hid (by rw [HENC.out, hs])
        have z1 : (2 : Int) ≤ (N : Int) := by omega
        have z2 : (6 : Int) ≤ (N : Int) := by omega
        have z3 : (N : Int) ≤ (c : Int) := by omega
        have z4 : (c = 2) = False := eq_false (by omega)
        have z5 : (c = 6) = False := eq_false (by omega)
        have HX0 := Lib.hid hx0
        clear hx0 hs hs2 hby hsl HENC
        go_upto_region 13 with fail
        go_cut [] (fun wz => Blk wz p 163 #[.slice (some ⟨g, 0, none⟩) N c] ∧ wz.ownsRow w.heap.size 5 1 (.slice (some ⟨g, 0, none⟩) N c) N ((putF 2 N ++ putF 4 s ++ body).map byteV) ∧ Below w.heap.size w wz)
        case first =>
          have hc0 := hbk2.drew.cell 0
          have hpw := hbk2.lt
          have hda : Below wy.heap.size wy (wy.alloc (.cells #[.slice (some ⟨g, 6, none⟩) (N - 6) (c - 6)] 45)).drew := (below_alloc wy _).drew
          have hbka := hbk2.below hda hpw
          have hca := hbka.cell 0
          have howna := kept_none (below_none hda) hown2
          have hbwa := hbw2.trans (hda.mono hbw2.size)
          clear hbk2 hown2 hbw2
          go_wp2_with fail
          go_region_held3 (fun w' => w'.cell? ⟨p, 0, none⟩ = some (.slice (some ⟨g, 0, none⟩) N c)) (first | exact hc0 | exact hca | exact hc1 | exact hc2) (first
            | ((with_reducible refine hsm.mono ?_); rintro e wS ⟨rfl, rfl⟩)
            | ((with_reducible refine (hput _).mono ?_); intro e w1 hret; obtain ⟨A1, c1, rfl, hown1, hb1, hx1⟩ := hret.is; clear hret; rw [putF_length]; have hbl1 := hbka.below hb1 hbka.lt; have hc1 := hbl1.cell 0)
            | (refine step_copy_at (by rfl) _ _ 45 45 (by rfl) 5 Tryz.underlying45 u8_one w.heap.size g 2 (N - 2) (c - 2) N c ((putF 2 N ++ (List.replicate 4 0 ++ body)).map byteV) (by rfl) (kept_none (below_none hb1) howna) (by omega) w1.heap.size A1 4 c1 ((putF 4 s).map byteV) (by rfl) (by rw [List.length_map, putF_length]) hx1.1 (bytes_oneCell _) ?_; intro w2 ho2 hg2; have hbl2 := hbl1.grown hg2 (by intro e; injection e with e; exact hpg e); have hbw2 := (hbwa.trans (hb1.mono hbwa.size)).trans (Below.grown (Below.refl _ _) hg2 (Nat.le_trans hbwa.size hb1.size) (fun k hk => by injection hk with hk; omega)); have hc2 := hbl2.cell 0)
            | fail)
          all_goals
            go_wp2
            go_meet
            case rel => exact ⟨hbl2, by rw [← HX0.out]; exact ho2, hbw2⟩
        case rest =>
          obtain ⟨hbk3, hown3, hbw3⟩ := hcut
          have hc3 := hbk3.cell 0
          rename World => wz
          have hf := HEP.out wz c hbw3 (by rw [hEL, HENC2.out]; exact hown3)
          rw [hEL] at hf
          have FIN := Lib.hid hf
          clear hbk3 hown3 hbw3 hf
          go_wp2
          go_ret2
          exact FIN.out
end Go.Proofs.YtkganajbilnanaaGreat
