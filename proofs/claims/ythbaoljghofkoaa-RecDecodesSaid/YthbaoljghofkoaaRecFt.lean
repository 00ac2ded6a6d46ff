/- rec's document: tables. Conditions: the record lies there; its rows are few. -/
import Derived.Test.YthbaoljghofkoaaRecFc
namespace Go.Proofs.Ythbaoljghofkoaa
open Go.ChangeShapes Go.WideShapes Go.ChangeAt Go.RowKit
open NumMath
set_option linter.unusedVariables false
set_option linter.unusedSimpArgs false
set_option maxRecDepth 20000

/-- an append that keeps blocks of other types -/
theorem wpList_append_rk {w : World} {ops : Array Oper} {rest : List Oper} {o : Oper} {a : Act} {Q : Exit → Act → World → Prop} (hgd : o.guard = none) (s x : Operand) (t t' : TypeId)
    (ho : o.op = .call { callee := .builtin .append, args := #[s, x], argTypes := #[t, t'] })
    (ht : Try.prog.underlying t = some (.slice 5)) (ht' : Try.prog.underlying t' = some (.slice 5)) {w0 : World} {A : Option Addr} {n c : Nat} {l : List Nat} (h : RB w0 w A n c l) (hs : a.eval s = .slice A n c)
    (B : Nat) (A1 : Option Addr) (m c1 : Nat) (news : List Nat) (hx : a.eval x = .slice A1 m c1) (hb : Bytes w B A1 news) (hm : news.length = m) (hn : n + m ≤ 1000000)
    (k : ∀ A' c' w', RB w0 w' A' (n + m) c' (l ++ news) → (∀ g t cs, t ≠ 5 → Blk w g t cs → Blk w' g t cs) → wpList Try.prog ops Q rest (a.put o.dst (.slice A' (n + m) c')) w') : wpList Try.prog ops Q (o :: rest) a w := by
  obtain ⟨i0, hi0, hz0, hz1, hz2⟩ := info_parts u8_info
  refine wpList_append_at2 hgd s x t t' ho w0.heap.size 5 i0 _ 1 ht ht' hi0 hz0 hz1 hz2 rfl _ n (l.map byteV) hs h.1 B A1 m c1 (news.map byteV) hx (by rw [List.length_map, hm]) hb.1 (bytes_oneCell _) (by unfold maxLen; omega) (by omega) h.2.1.size ?_
  intro A' c' w' hown hg hat
  refine k A' c' w' ⟨by rw [List.map_append]; exact hown, below_own h.2.1 hg h.1 (Nat.le_refl _) h.2.1.size, small_append h.2.2.1 hb.2, by rw [List.length_append, h.2.2.2, hm]⟩ ?_
  intro g t cs ht hbl
  exact (hg.block g hbl.lt ((own_block ht.symm h.1 hbl).elim (fun e => by rw [e]; simp) Ne.symm)).trans hbl
theorem tabL_txs (l : List Nat) (t : List TxP) (k : Nat) (h : k < t.length) : l ++ (t.take (k + 1)).flatMap txL = ((((l ++ (t.take k).flatMap txL) ++ putF 4 t[k].txn) ++ putF 8 t[k].last) ++ putF 8 t[k].undo) ++ putF 1 t[k].state := by
  rw [tx_next l t k h]
set_option maxHeartbeats 8000000 in
theorem reftables_any (r : RecP) (m : RecMm) (B : Nat) (w : World) (h : RecAt w B r m) (hB : B ≤ w.heap.size) (hn1 : r.txns.length ≤ 64) (hn2 : r.pages.length ≤ 64) :
    Calls Try.prog 31 #[.agg (recA r m)] w (RetBytes 5 (tabL r) w) := by
  have kb := Blk.new w 31 (recA r m)
  have hb := below_alloc w (.cells (recA r m) 31)
  have hr := h.below (hb.mono hB)
  have htf := h.fits.txns
  have hpf := h.fits.pages
  have hTL : tabL r = putF 1 r.txns.length ++ r.txns.flatMap txL ++ putF 1 r.pages.length ++ r.pages.flatMap dirL := by unfold tabL; simp only [List.append_assoc]
  obtain ⟨nt, hnt⟩ : ∃ nt, r.txns.length = nt := ⟨_, rfl⟩
  obtain ⟨np, hnp⟩ : ∃ np, r.pages.length = np := ⟨_, rfl⟩
  rw [hnt, hnp] at hTL
  rw [hnt] at hn1
  rw [hnp] at hn2
  have HTL := Lib.hid hTL
  have HN := Lib.hid (And.intro hnt hnp)
  go_enter Try.func31, Try.ntmps31
  go_upto_region 1 with fail
  generalize World.alloc w _ = W0 at *
  have hg := kb.lt
  have KB : Hid (∀ W, Below W0.heap.size W0 W → W.cell? ⟨w.heap.size, 10, none⟩ = some (.slice m.A3 nt m.c3) ∧ W.cell? ⟨w.heap.size, 11, none⟩ = some (.slice m.A4 np m.c4)) := Lib.hid fun W hW => by
    have q := RecBox.of (kb.below hW hg)
    have q10 := q.k10
    have q11 := q.k11
    rw [hnt] at q10
    rw [hnp] at q11
    exact ⟨q10, q11⟩
  have HT : Hid (∀ W, Below W0.heap.size W0 W → TxsAt W B m.A3 r.txns ∧ DirsAt W B m.A4 r.pages) := Lib.hid fun W hW => ⟨hr.txs.below (hW.mono (Nat.le_trans hB hb.size)), hr.dirs.below (hW.mono (Nat.le_trans hB hb.size))⟩
  have HB := Lib.hid hb
  have HFI := Lib.hid (And.intro htf hpf)
  have g1 : IntKind.u8.wrap (nt : Int) = (nt : Int) := by rw [IntKind.wrap_u8]; omega
  have g2 : (nt : Int) % 256 = (nt : Int) := by omega
  have g3 : IntKind.u8.wrap (np : Int) = (np : Int) := by rw [IntKind.wrap_u8]; omega
  have g4 : (np : Int) % 256 = (np : Int) := by omega
  obtain ⟨q10, -⟩ := KB.out W0 (Below.refl _ _)
  have hlt256 : nt < 256 := by omega
  have hlp256 : np < 256 := by omega
  clear kb hb hr h htf hpf hnt hnp hTL
  go_upto_region 2 with fail
  have r1 := one_rb W0 hlt256
  rw [← putF_one hlt256] at r1
  generalize World.alloc W0 _ = w1 at *
  obtain ⟨A0, hA0⟩ : ∃ A0, (some ⟨W0.heap.size, 0, none⟩ : Option Addr) = A0 := ⟨_, rfl⟩
  rw [hA0] at r1 ⊢
  clear hA0 q10
  go_wp2_with fail
  go_loopw [3, 4, 5] (fun bv iv _ wr => ∃ (k n c : Nat) (A : Option Addr), k ≤ nt ∧ n ≤ 1 + 21 * k ∧ iv = .int .i64 k ∧ bv = .slice A n c ∧ RB W0 wr A n c (putF 1 nt ++ (r.txns.take k).flatMap txL)) (fun _ iv _ _ => nt - (intOf iv).toNat)
  case atStart => exact ⟨0, 1, 1, A0, Nat.zero_le _, by omega, rfl, rfl, by simpa using r1⟩
  case round =>
    clear r1
    obtain ⟨k, n, c, A, hkn, hnk, rfl, rfl, hr⟩ := hrel
    obtain ⟨q10, q11⟩ := KB.out wr hr.2.1
    rcases Nat.lt_or_ge k nt with hlt | hge
    · have e1 : decide ((k : Int) < (nt : Int)) = true := by rw [decide_eq_true_iff]; omega
      have e2 : (0 : Int) ≤ (k : Int) := by omega
      have e3 : (k : Int) < (nt : Int) := by omega
      have hkl : k < r.txns.length := by rw [HN.out.1]; exact hlt
      obtain ⟨b, o, hA3, hbB, c0, c1, c2, c3⟩ := (HT.out wr hr.2.1).1 k hkl
      have hnx := tabL_txs (putF 1 nt) r.txns k hkl
      have hfit := HFI.out.1 _ (List.getElem_mem hkl)
      rw [hA3] at q10
      generalize (r.txns.take k).flatMap txL = tl at *
      generalize r.txns[k] = x at *
      obtain ⟨f0, f1, f2, f3⟩ := hfit
      have ld := load_tx c0 c1 c2 c3
      have st := store_tx wr x
      have kt := Blk.new wr 64 (txV x)
      have h3 := hr.alloc (.cells (txV x) 64)
      have v4 : IntKind.u64.wrap (x.txn : Int) = (x.txn : Int) := by rw [IntKind.wrap_u64]; omega
      have HX := Lib.hid hnx
      have hn5 : n ≤ 2000 := by omega
      clear hnx hr c0 c1 c2 c3 hA3 q11
      go_upto_region 6 with (first | (refine wpList_load_run rfl 64 (.tmp 22) _ _ rfl rfl ld ?_; clear ld) | (refine wpList_store_run rfl 64 (.tmp 5) (.tmp 23) _ _ rfl rfl rfl st ?_; clear st))
      generalize World.alloc wr _ = w3 at *
      generalize wr.heap.size = gx at *
      generalize putF 1 nt ++ tl = l0 at *
      have p0 : w3.cell? ⟨gx, 0, none⟩ = some (.int .u32 (x.txn : Nat)) := kt.cell 0
      go_wp2_with fail
      refine (refputn_any x.txn 4 w3 (by omega) (by omega) (by omega)).mono ?_
      rintro e v4' ⟨B4, d4, rfl, o4, b4⟩
      have q4 := h3.keep b4
      have x4 := own_bytes o4 (putF_small 4 x.txn)
      have kt4 := kt.below b4 kt.lt
      clear o4 b4 h3 p0 v4 kt
      go_upto_region 7 with (at_builtin; refine wpList_append_rk rfl _ _ 25 25 rfl Try.underlying25 Try.underlying25 q4 rfl v4'.heap.size B4 4 d4 (putF 4 x.txn) rfl x4 (putF_length _ _) (by omega) ?_; intro A4 c4 w4 r4 t5; clear q4 x4)
      have kt5 := t5 _ _ _ (by decide) kt4
      have p1 : w4.cell? ⟨gx, 1, none⟩ = some (.int .u64 (x.last : Nat)) := kt5.cell 1
      clear t5 kt4
      go_wp2_with fail
      refine (refputn_any x.last 8 w4 f1 (by omega) (by omega)).mono ?_
      rintro e v5 ⟨B5, d5, rfl, o5, b5⟩
      have q5 := r4.keep b5
      have x5 := own_bytes o5 (putF_small 8 x.last)
      have kt6 := kt5.below b5 kt5.lt
      clear o5 b5 r4 p1 kt5
      go_upto_region 8 with (at_builtin; refine wpList_append_rk rfl _ _ 25 25 rfl Try.underlying25 Try.underlying25 q5 rfl v5.heap.size B5 8 d5 (putF 8 x.last) rfl x5 (putF_length _ _) (by omega) ?_; intro A5 c5 w5 r5 t6; clear q5 x5)
      have kt7 := t6 _ _ _ (by decide) kt6
      have p2 : w5.cell? ⟨gx, 2, none⟩ = some (.int .u64 (x.undo : Nat)) := kt7.cell 2
      clear t6 kt6
      go_wp2_with fail
      refine (refputn_any x.undo 8 w5 f2 (by omega) (by omega)).mono ?_
      rintro e v6 ⟨B6, d6, rfl, o6, b6⟩
      have q6 := r5.keep b6
      have x6 := own_bytes o6 (putF_small 8 x.undo)
      have kt8 := kt7.below b6 kt7.lt
      clear o6 b6 r5 p2 kt7
      go_upto_region 9 with (at_builtin; refine wpList_append_rk rfl _ _ 25 25 rfl Try.underlying25 Try.underlying25 q6 rfl v6.heap.size B6 8 d6 (putF 8 x.undo) rfl x6 (putF_length _ _) (by omega) ?_; intro A6 c6 w6 r6 t7; clear q6 x6)
      have kt9 := t7 _ _ _ (by decide) kt8
      have p3 : w6.cell? ⟨gx, 3, none⟩ = some (.int .u8 (x.state : Nat)) := kt9.cell 3
      clear t7 kt8 kt9
      go_wp2_with (at_builtin; refine wpList_append_rb rfl _ _ 25 25 rfl Try.underlying25 Try.underlying25 (r6.alloc _) rfl (w6.heap.size + 1) (some ⟨w6.heap.size, 0, none⟩) 1 1 [x.state] rfl (one_bytes w6 f3) rfl (by omega) ?_; intro A7 c7 w7 r7; clear r6)
      rw [← putF_one f3, ← HX.out] at r7
      have R7 := Lib.hid r7
      clear r7 p3
      go_roundw
      case rel => exact ⟨k + 1, n + 4 + 8 + 8 + 1, c7, A7, by omega, by omega, by go_num, rfl, R7.out⟩
      case measure => simp [intOf]; omega
    · obtain rfl : k = nt := by omega
      have e1 : decide ((k : Int) < (k : Int)) = false := by rw [decide_eq_false_iff_not]; omega
      rw [List.take_of_length_le (by rw [HN.out.1]; omega)] at hr
      have hn5 : n ≤ 2000 := by omega
      generalize putF 1 k ++ r.txns.flatMap txL = l1 at *
      clear hge hkn hnk
      have hbp : Bytes (wr.alloc (.cells #[.int .u8 (np : Int)] 5)) (wr.heap.size + 1) (some ⟨wr.heap.size, 0, none⟩) [np] := one_bytes wr hlp256
      go_upto_region 11 with (at_builtin; refine wpList_append_rb rfl _ _ 25 25 rfl Try.underlying25 Try.underlying25 (hr.alloc _) rfl (wr.heap.size + 1) (some ⟨wr.heap.size, 0, none⟩) 1 1 [np] rfl hbp rfl (by omega) ?_; intro A2 c2 w2 r2; clear hr hbp)
      rw [← putF_one hlp256] at r2
      generalize l1 ++ putF 1 np = l2 at *
      obtain ⟨n2, hn2'⟩ : ∃ n2, n + 1 = n2 := ⟨_, rfl⟩
      rw [hn2'] at r2 ⊢
      have hn6 : n2 ≤ 2001 := by omega
      clear q10 q11 hn5 hn2'
      go_wp2_with fail
      go_loopw [3, 6] (fun bv iv wr => ∃ (j n c : Nat) (A : Option Addr), j ≤ np ∧ n ≤ 2001 + 12 * j ∧ iv = .int .i64 j ∧ bv = .slice A n c ∧ RB W0 wr A n c (l2 ++ (r.pages.take j).flatMap dirL)) (fun _ iv _ => np - (intOf iv).toNat)
      case atStart => exact ⟨0, n2, c2, A2, Nat.zero_le _, by omega, rfl, rfl, by simpa using r2⟩
      case round =>
        clear r2 hn6
        obtain ⟨j, n3, c3, A3, hjn, hnj, rfl, rfl, hr⟩ := hrel
        rename World => wq
        obtain ⟨q10, q11⟩ := KB.out wq hr.2.1
        rcases Nat.lt_or_ge j np with hlt | hge
        · have e1 : decide ((j : Int) < (np : Int)) = true := by rw [decide_eq_true_iff]; omega
          have e2 : (0 : Int) ≤ (j : Int) := by omega
          have e3 : (j : Int) < (np : Int) := by omega
          have hjl : j < r.pages.length := by rw [HN.out.2]; exact hlt
          have hAT := Lib.hid ((HT.out wq hr.2.1).2 j hjl)
          obtain ⟨b, o, hA4, hbB, c0, c1⟩ := hAT.out
          have hlow : b < W0.heap.size := Nat.lt_of_lt_of_le hbB (Nat.le_trans hB HB.out.size)
          have hnx := dir_next l2 r.pages j hjl
          have hfit := HFI.out.2 _ (List.getElem_mem hjl)
          rw [hA4] at q11
          generalize (r.pages.take j).flatMap dirL = tl at *
          generalize r.pages[j] = x at *
          obtain ⟨f0, f1⟩ := hfit
          have CX : Hid (∀ W, Below W0.heap.size W0 W → W0.cell? ⟨b, o + j * 2 + 1, none⟩ = some (.int .u64 (x.first : Nat)) → W.cell? ⟨b, o + j * 2 + 1, none⟩ = some (.int .u64 (x.first : Nat)) ∧ W.cell? ⟨w.heap.size, 11, none⟩ = some (.slice (some ⟨b, o, none⟩) np m.c4)) := Lib.hid fun W hW hz => ⟨(hW.cell (p := ⟨b, _, none⟩) hlow).trans hz, hA4 ▸ (KB.out W hW).2⟩
          have c1z : W0.cell? ⟨b, o + j * 2 + 1, none⟩ = some (.int .u64 (x.first : Nat)) := (hr.2.1.cell (p := ⟨b, _, none⟩) hlow).symm.trans c1
          have C1Z := Lib.hid c1z
          have v4 : IntKind.u64.wrap (x.page : Int) = (x.page : Int) := by rw [IntKind.wrap_u64]; omega
          have HX := Lib.hid hnx
          have hn5 : n3 ≤ 3000 := by omega
          clear hnx c1 c1z hA4 q10 hAT
          generalize l2 ++ tl = l0 at *
          go_wp2_with fail
          refine (refputn_any x.page 4 wq (by omega) (by omega) (by omega)).mono ?_
          rintro e v5 ⟨B4, d4, rfl, o4, b4⟩
          have q4 := hr.keep b4
          have x4 := own_bytes o4 (putF_small 4 x.page)
          clear o4 b4 hr c0 v4 q11
          go_upto_region 15 with (at_builtin; refine wpList_append_rb rfl _ _ 25 25 rfl Try.underlying25 Try.underlying25 q4 rfl v5.heap.size B4 4 d4 (putF 4 x.page) rfl x4 (putF_length _ _) (by omega) ?_; intro A4 c4 w4 r4; clear q4 x4)
          obtain ⟨c1', q11'⟩ := CX.out w4 r4.2.1 C1Z.out
          go_wp2_with fail
          refine (refputn_any x.first 8 w4 f1 (by omega) (by omega)).mono ?_
          rintro e v6 ⟨B5, d5, rfl, o5, b5⟩
          have q5 := r4.keep b5
          have x5 := own_bytes o5 (putF_small 8 x.first)
          clear o5 b5 r4 c1' q11'
          go_wp2_with (at_builtin; refine wpList_append_rb rfl _ _ 25 25 rfl Try.underlying25 Try.underlying25 q5 rfl v6.heap.size B5 8 d5 (putF 8 x.first) rfl x5 (putF_length _ _) (by omega) ?_; intro A5 c5 w5 r5; clear q5 x5)
          rw [← HX.out] at r5
          have R5 := Lib.hid r5
          clear r5
          go_roundw
          case rel => exact ⟨j + 1, n3 + 4 + 8, c5, A5, by omega, by omega, by go_num, rfl, R5.out⟩
          case measure => simp [intOf]; omega
        · obtain rfl : j = np := by omega
          have e1 : decide ((j : Int) < (j : Int)) = false := by rw [decide_eq_false_iff_not]; omega
          rw [List.take_of_length_le (by rw [HN.out.2]; omega)] at hr
          have F := hr.ret HB.out
          rw [← HTL.out] at F
          have FF := Lib.hid F
          clear hr F
          go_wp2
          go_ret
          exact FF.out
end Go.Proofs.Ythbaoljghofkoaa
