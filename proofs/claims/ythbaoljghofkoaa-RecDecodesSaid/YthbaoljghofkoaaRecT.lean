/- rec: the writer's tables. Conditions: as stated. -/
import Derived.Test.YthbaoljghofkoaaRecX
namespace Go.Proofs.Ythbaoljghofkoaa
open Go.ChangeShapes Go.WideShapes Go.ChangeAt Go.RowKit
open NumMath
set_option linter.unusedVariables false
set_option linter.unusedSimpArgs false
set_option maxRecDepth 20000

theorem WrE.only {base p : Nat} {W0 w : World} {S : Nat → Prop} {l : List Nat} (h : WrE base W0 S p l w) : Only S W0 w := by obtain ⟨A, c, z⟩ := h; exact z.only
theorem size_tx : (Try.prog.info? 64).map (·.size) = some 4 := by kernel_rfl
theorem size_dir : (Try.prog.info? 66).map (·.size) = some 2 := by kernel_rfl
theorem load_tx {w : World} {b o : Nat} {x : TxP} (c0 : w.cell? ⟨b, o, none⟩ = some (.int .u32 (x.txn : Nat))) (c1 : w.cell? ⟨b, o + 1, none⟩ = some (.int .u64 (x.last : Nat))) (c2 : w.cell? ⟨b, o + 2, none⟩ = some (.int .u64 (x.undo : Nat))) (c3 : w.cell? ⟨b, o + 3, none⟩ = some (.int .u8 (x.state : Nat))) :
    (Instr.loadAt 64 (.pointer (some ⟨b, o, none⟩))).run Try.prog w = .ok (.agg (txV x)) w :=
  run_load_cells 64 (txV x).toList _ (fun j v hv => by
    match j with
    | 0 => rw [Nat.add_zero]; exact c0.trans hv
    | 1 => exact c1.trans hv
    | 2 => exact c2.trans hv
    | 3 => exact c3.trans hv
    | j + 4 => cases hv) Try.underlying64 rfl size_tx
theorem store_tx (w : World) (x : TxP) : (Instr.storeAt 64 (.pointer (some ⟨w.heap.size, 0, none⟩)) (.agg (txV x))).run Try.prog (w.alloc (.cells #[.int .u32 0, .int .u64 0, .int .u64 0, .int .u8 0] 64)) = .ok () (w.alloc (.cells (txV x) 64)) :=
  run_storeAt_new w 64 _ (txV x) size_tx rfl (by simp [txV, Value.oneCell'])
def dirV (x : DirP) : Array Value := #[.int .u32 (x.page : Nat), .int .u64 (x.first : Nat)]
theorem load_dir {w : World} {b o : Nat} {x : DirP} (c0 : w.cell? ⟨b, o, none⟩ = some (.int .u32 (x.page : Nat))) (c1 : w.cell? ⟨b, o + 1, none⟩ = some (.int .u64 (x.first : Nat))) :
    (Instr.loadAt 66 (.pointer (some ⟨b, o, none⟩))).run Try.prog w = .ok (.agg (dirV x)) w :=
  run_load_cells 66 (dirV x).toList _ (fun j v hv => by
    match j with
    | 0 => rw [Nat.add_zero]; exact c0.trans hv
    | 1 => exact c1.trans hv
    | j + 2 => cases hv) Try.underlying66 rfl size_dir
theorem store_dir (w : World) (x : DirP) : (Instr.storeAt 66 (.pointer (some ⟨w.heap.size, 0, none⟩)) (.agg (dirV x))).run Try.prog (w.alloc (.cells #[.int .u32 0, .int .u64 0] 66)) = .ok () (w.alloc (.cells (dirV x) 66)) :=
  run_storeAt_new w 66 _ (dirV x) size_dir rfl (by simp [dirV, Value.oneCell'])
theorem tx_next (l : List Nat) (t : List TxP) (k : Nat) (h : k < t.length) : l ++ (t.take (k + 1)).flatMap txL = (((l ++ (t.take k).flatMap txL) ++ putF 4 t[k].txn) ++ putF 8 t[k].last) ++ putF 8 t[k].undo ++ putF 1 t[k].state := by
  rw [List.take_succ_eq_append_getElem h, List.flatMap_append]
  simp [txL]
theorem dir_next (l : List Nat) (t : List DirP) (k : Nat) (h : k < t.length) : l ++ (t.take (k + 1)).flatMap dirL = ((l ++ (t.take k).flatMap dirL) ++ putF 4 t[k].page) ++ putF 8 t[k].first := by
  rw [List.take_succ_eq_append_getElem h, List.flatMap_append]
  simp [dirL]
theorem txs_len (t : List TxP) (k : Nat) : ((t.take k).flatMap txL).length ≤ 21 * t.length := by
  rw [txLs_length, List.length_take]; omega
theorem dirs_len (t : List DirP) (k : Nat) : ((t.take k).flatMap dirL).length ≤ 12 * t.length := by
  rw [dirLs_length, List.length_take]; omega
set_option maxHeartbeats 8000000 in
theorem wtables_any (r : RecP) (m : RecMm) (B : Nat) {base : Nat} {W0 : World} {S : Nat → Prop} {p : Nat} {l : List Nat} {w : World} (h : WrE base W0 S p l w) (hd : RecAt W0 B r m) (hB : B ≤ W0.heap.size) (hS : ∀ b, S b → B ≤ b) (hl : l.length ≤ 1000) (hn1 : r.txns.length ≤ 64) (hn2 : r.pages.length ≤ 64) :
    Calls Try.prog 25 #[.pointer (some ⟨p, 0, none⟩), .agg (recA r m)] w fun e w' => e = .returned (.tuple #[]) ∧ WrE base W0 S p (l ++ tabL r) w' := by
  obtain ⟨S', h1, hs1, hs2, hb, hB1, hback⟩ := h.boxed hB hS (.cells (recA r m) 31)
  have kb := Blk.new w 31 (recA r m)
  have hd1 := hd.below hb
  have HBK := Lib.hid hback
  have hnb : ¬ S' w.heap.size := fun q => by have := hs1 _ q; omega
  have hLL : l ++ tabL r = ((l ++ putF 1 r.txns.length) ++ r.txns.flatMap txL ++ putF 1 r.pages.length) ++ r.pages.flatMap dirL := by unfold tabL; simp only [List.append_assoc]
  have HLL := Lib.hid hLL
  have htf := hd.fits.txns
  have hpf := hd.fits.pages
  clear h hd hb hback hLL
  obtain ⟨nt, hnt⟩ : ∃ nt, r.txns.length = nt := ⟨_, rfl⟩
  obtain ⟨np, hnp⟩ : ∃ np, r.pages.length = np := ⟨_, rfl⟩
  have HN := Lib.hid (And.intro hnt hnp)
  go_enter Try.func25, Try.ntmps25
  go_upto_region 1 with fail
  generalize World.alloc w _ = w1 at *
  have hk : ∀ W, Only S' w1 W → RecBox W w.heap.size r m := fun W hW => RecBox.of (kb.only hW hnb)
  have hlow : ∀ W, Only S' w1 W → Below B w1 W := fun W hW => hW.below hB1 hs2
  have q10 := (RecBox.of kb).k10
  rw [hnt] at q10 hn1
  rw [hnp] at hn2
  have v1 : IntKind.u64.wrap (nt : Int) = (nt : Int) := by rw [IntKind.wrap_u64]; omega
  have v2 : IntKind.u64.wrap (np : Int) = (np : Int) := by rw [IntKind.wrap_u64]; omega
  have cn := wnum_any nt 1 (by omega) (by omega) (by omega) h1 (by omega)
  clear h1 kb hnt hnp
  go_wp2_with fail
  refine cn.mono ?_
  rintro e w2 ⟨rfl, h2⟩
  have q10' := (hk w2 h2.only).k10
  rw [HN.out.1] at q10'
  have hl1 : (l ++ putF 1 nt).length ≤ 1001 := by rw [List.length_append, putF_length]; omega
  generalize hll1 : l ++ putF 1 nt = l1 at *
  have HL1 := Lib.hid hll1
  clear cn q10 hll1
  go_wp2_with fail
  go_loopw [17, 5] (fun iv _ wr => ∃ k : Nat, k ≤ nt ∧ iv = .int .i64 k ∧ WrE base w1 S' p (l1 ++ (r.txns.take k).flatMap txL) wr) (fun iv _ _ => nt - (intOf iv).toNat)
  case atStart => exact ⟨0, Nat.zero_le _, rfl, by simpa using h2⟩
  case round =>
    clear h2 q10'
    obtain ⟨k, hkn, rfl, hw⟩ := hrel
    rcases Nat.lt_or_ge k nt with hlt | hge
    · have e1 : decide ((k : Int) < (nt : Int)) = true := by rw [decide_eq_true_iff]; omega
      have e2 : (0 : Int) ≤ (k : Int) := by omega
      have e3 : (k : Int) < (nt : Int) := by omega
      have hkl : k < r.txns.length := by rw [HN.out.1]; exact hlt
      obtain ⟨b, o, hA3, hbB, c0, c1, c2, c3⟩ := (hd1.txs.below (hlow wr hw.only)) k hkl
      have hnx := tx_next l1 r.txns k hkl
      have hlen := txs_len r.txns k
      rw [HN.out.1] at hlen
      have hfit := htf _ (List.getElem_mem hkl)
      rw [hA3]
      obtain ⟨S2, h1, hs1', hs2', hb', hB1', hback'⟩ := hw.boxed hB1 hs2 (.cells (txV r.txns[k]) 64)
      have kt := Blk.new wr 64 (txV r.txns[k])
      have hnb' : ¬ S2 wr.heap.size := fun q => by have := hs1' _ q; omega
      generalize (r.txns.take k).flatMap txL = tl at *
      generalize r.txns[k] = x at *
      obtain ⟨f0, f1, f2, f3⟩ := hfit
      have ld := load_tx c0 c1 c2 c3
      have st := store_tx wr x
      have HX := Lib.hid (And.intro hnx hback')
      have hl2 : (l1 ++ tl).length ≤ 3000 := by rw [List.length_append]; omega
      have v4 : IntKind.u64.wrap (x.txn : Int) = (x.txn : Int) := by rw [IntKind.wrap_u64]; omega
      have v5 : IntKind.u64.wrap (x.state : Int) = (x.state : Int) := by rw [IntKind.wrap_u64]; omega
      generalize l1 ++ tl = l2 at *
      clear hnx hback' hw c0 c1 c2 c3 hb'
      go_upto_region 5 with (first | (refine wpList_load_run rfl 64 (.tmp 19) _ _ rfl rfl ld ?_; clear ld) | (refine wpList_store_run rfl 64 (.tmp 5) (.tmp 20) _ _ rfl rfl rfl st ?_; clear st))
      have hkt : ∀ W, Only S2 (wr.alloc (.cells (txV x) 64)) W → Blk W wr.heap.size 64 (txV x) := fun W hW => kt.only hW hnb'
      generalize World.alloc wr _ = w3 at *
      have p0 : w3.cell? ⟨wr.heap.size, 0, none⟩ = some (.int .u32 (x.txn : Nat)) := kt.cell 0
      have cn1 := wnum_any x.txn 4 (by omega) (by omega) (by omega) h1 (by omega)
      clear kt h1
      go_wp2_with fail
      refine cn1.mono ?_
      rintro e w4 ⟨rfl, h4⟩
      have p1 : w4.cell? ⟨wr.heap.size, 1, none⟩ = some (.int .u64 (x.last : Nat)) := (hkt w4 h4.only).cell 1
      have cn2 := wnum_any x.last 8 f1 (by omega) (by omega) h4 (by rw [List.length_append, putF_length]; omega)
      clear cn1 p0 h4
      go_wp2_with fail
      refine cn2.mono ?_
      rintro e w5 ⟨rfl, h5⟩
      have p2 : w5.cell? ⟨wr.heap.size, 2, none⟩ = some (.int .u64 (x.undo : Nat)) := (hkt w5 h5.only).cell 2
      have cn3 := wnum_any x.undo 8 f2 (by omega) (by omega) h5 (by simp only [List.length_append, putF_length]; omega)
      clear cn2 p1 h5
      go_wp2_with fail
      refine cn3.mono ?_
      rintro e w6 ⟨rfl, h6⟩
      have p3 : w6.cell? ⟨wr.heap.size, 3, none⟩ = some (.int .u8 (x.state : Nat)) := (hkt w6 h6.only).cell 3
      have cn4 := wnum_any x.state 1 (by omega) (by omega) (by omega) h6 (by simp only [List.length_append, putF_length]; omega)
      clear cn3 p2 h6
      go_wp2_with fail
      refine cn4.mono ?_
      rintro e w7 ⟨rfl, h7⟩
      have FIN := Lib.hid (HX.out.2 _ _ h7)
      clear cn4 p3 h7 hkt
      go_wp2
      go_roundw
      case rel => exact ⟨k + 1, by omega, by go_num, by rw [HX.out.1]; exact FIN.out⟩
      case measure => simp [intOf]; omega
    · obtain rfl : k = nt := by omega
      have e1 : decide ((k : Int) < (k : Int)) = false := by rw [decide_eq_false_iff_not]; omega
      rw [List.take_of_length_le (by rw [HN.out.1]; omega)] at hw
      have hlen := txLs_length r.txns
      rw [HN.out.1] at hlen
      have q11 := (hk wr hw.only).k11
      rw [HN.out.2] at q11
      have hl3 : (l1 ++ r.txns.flatMap txL).length ≤ 2400 := by rw [List.length_append]; omega
      generalize hll3 : l1 ++ r.txns.flatMap txL = l3 at *
      have HL3 := Lib.hid hll3
      have cn := wnum_any np 1 (by omega) (by omega) (by omega) hw (by omega)
      clear hw hll3 hlen
      go_wp2_with fail
      refine cn.mono ?_
      rintro e w2 ⟨rfl, h2⟩
      have q11' := (hk w2 h2.only).k11
      rw [HN.out.2] at q11'
      have hl4 : (l3 ++ putF 1 np).length ≤ 2401 := by rw [List.length_append, putF_length]; omega
      generalize hll4 : l3 ++ putF 1 np = l4 at *
      have HL4 := Lib.hid hll4
      clear cn q11 hll4
      go_wp2_with fail
      go_loopw [49, 7] (fun iv _ wr => ∃ j : Nat, j ≤ np ∧ iv = .int .i64 j ∧ WrE base w1 S' p (l4 ++ (r.pages.take j).flatMap dirL) wr) (fun iv _ _ => np - (intOf iv).toNat)
      case atStart => exact ⟨0, Nat.zero_le _, rfl, by simpa using h2⟩
      case round =>
        clear h2 q11'
        obtain ⟨j, hjn, rfl, hw⟩ := hrel
        rename World => wq
        rcases Nat.lt_or_ge j np with hlt | hge
        · have e1 : decide ((j : Int) < (np : Int)) = true := by rw [decide_eq_true_iff]; omega
          have e2 : (0 : Int) ≤ (j : Int) := by omega
          have e3 : (j : Int) < (np : Int) := by omega
          have hjl : j < r.pages.length := by rw [HN.out.2]; exact hlt
          obtain ⟨b, o, hA4, hbB, c0, c1⟩ := (hd1.dirs.below (hlow wq hw.only)) j hjl
          have hnx := dir_next l4 r.pages j hjl
          have hlen := dirs_len r.pages j
          rw [HN.out.2] at hlen
          have hfit := hpf _ (List.getElem_mem hjl)
          rw [hA4]
          obtain ⟨S2, h1, hs1', hs2', hb', hB1', hback'⟩ := hw.boxed hB1 hs2 (.cells (dirV r.pages[j]) 66)
          have kt := Blk.new wq 66 (dirV r.pages[j])
          have hnb' : ¬ S2 wq.heap.size := fun q => by have := hs1' _ q; omega
          generalize (r.pages.take j).flatMap dirL = tl at *
          generalize r.pages[j] = x at *
          obtain ⟨f0, f1⟩ := hfit
          have ld := load_dir c0 c1
          have st := store_dir wq x
          have HX := Lib.hid (And.intro hnx hback')
          have hl2 : (l4 ++ tl).length ≤ 4000 := by rw [List.length_append]; omega
          have v4 : IntKind.u64.wrap (x.page : Int) = (x.page : Int) := by rw [IntKind.wrap_u64]; omega
          generalize l4 ++ tl = l2 at *
          clear hnx hback' hw c0 c1 hb'
          go_upto_region 14 with (first | (refine wpList_load_run rfl 66 (.tmp 51) _ _ rfl rfl ld ?_; clear ld) | (refine wpList_store_run rfl 66 (.tmp 7) (.tmp 52) _ _ rfl rfl rfl st ?_; clear st))
          have hkt : ∀ W, Only S2 (wq.alloc (.cells (dirV x) 66)) W → Blk W wq.heap.size 66 (dirV x) := fun W hW => kt.only hW hnb'
          generalize World.alloc wq _ = w3 at *
          have p0 : w3.cell? ⟨wq.heap.size, 0, none⟩ = some (.int .u32 (x.page : Nat)) := kt.cell 0
          have cn1 := wnum_any x.page 4 (by omega) (by omega) (by omega) h1 (by omega)
          clear kt h1
          go_wp2_with fail
          refine cn1.mono ?_
          rintro e w4 ⟨rfl, h4⟩
          have p1 : w4.cell? ⟨wq.heap.size, 1, none⟩ = some (.int .u64 (x.first : Nat)) := (hkt w4 h4.only).cell 1
          have cn2 := wnum_any x.first 8 f1 (by omega) (by omega) h4 (by rw [List.length_append, putF_length]; omega)
          clear cn1 p0 h4
          go_wp2_with fail
          refine cn2.mono ?_
          rintro e w5 ⟨rfl, h5⟩
          have FIN := Lib.hid (HX.out.2 _ _ h5)
          clear cn2 p1 h5 hkt
          go_wp2
          go_roundw
          case rel => exact ⟨j + 1, by omega, by go_num, by rw [HX.out.1]; exact FIN.out⟩
          case measure => simp [intOf]; omega
        · obtain rfl : j = np := by omega
          have e1 : decide ((j : Int) < (j : Int)) = false := by rw [decide_eq_false_iff_not]; omega
          rw [List.take_of_length_le (by rw [HN.out.2]; omega)] at hw
          have FIN : Hid (WrE base W0 S p (l ++ tabL r) wq) := Lib.hid (by
            rw [HLL.out, HN.out.1, HN.out.2, HL1.out, HL3.out, HL4.out]
            exact HBK.out _ _ hw)
          clear hw
          go_wp2
          go_end0
          exact ⟨rfl, FIN.out⟩
end Go.Proofs.Ythbaoljghofkoaa
