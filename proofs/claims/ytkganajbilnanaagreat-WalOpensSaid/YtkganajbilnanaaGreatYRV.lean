/- rec's document: Decode, as the log's document uses it. Conditions: the bytes lie there, up to 8000. -/
import Derived.Test.YtkganajbilnanaaGreatYRecFd
import Derived.Test.YtkganajbilnanaaGreatYWZ
import Derived.Test.YtkganajbilnanaaGreatYRL
set_option linter.unusedVariables false
set_option linter.unusedSimpArgs false
namespace Go.Proofs.YtkganajbilnanaaGreat
open Go.ChangeShapes Go.WideShapes Go.ChangeAt Go.RowKit
open NumMath
theorem decN_take {l : List Nat} {p : Nat} (h : 2 ≤ p) : decN (l.take p) = decN l := by
  unfold decN
  rw [List.take_take, Nat.min_eq_left h]
theorem numB_decN {l : List Nat} (h : 2 ≤ l.length) : numB l 0 2 = decN l := by
  unfold numB decN
  rw [← (part_at (l := l) (m := l.take 2) (rest := l.drop 2) (p := 0) (n := 2) (by rw [List.drop_zero, List.take_append_drop]) (by rw [List.length_take]; omega)).1]
theorem rdecode_loop {A : Option Addr} {c : Nat} {l : List Nat} {w : World} (h : Bytes w w.heap.size A l) (hc : l.length ≤ c) (hl : l.length ≤ 8000) (hfit : ∀ r, decR l = some r → r.Fits) :
    Calls Tryz.prog 36 #[.slice A l.length c] w fun e w' => Below w.heap.size w w' ∧ ∃ (r : RecP) (m : RecMm) (n no : Nat), e = .returned (.tuple #[.agg (recA r m), .int .i64 (n : Nat), .int .i64 (no : Nat)]) ∧
      ((no ≠ 0 ∧ no < 100 ∧ decR l = none) ∨ (no = 0 ∧ n = decN l ∧ decR l = some r ∧ RecFrom w.heap.size w' r m)) := by
  have hsm := h.2
  refine (refdecode_any h hc hl).mono ?_
  rintro e w' ⟨hb, hor⟩
  refine ⟨hb, ?_⟩
  rcases hor with ⟨q, rfl⟩ | ⟨h1, h2, h3, hor⟩
  · refine ⟨recZ, memZ, 0, 60, rfl, .inl ⟨by decide, by decide, ?_⟩⟩
    unfold decR
    by_cases h27 : 27 ≤ l.length
    · rw [numB_decN (by omega)] at q
      rw [if_neg (by omega)]
    · rw [if_neg (by omega)]
  · rw [numB_decN (by omega)] at h2 h3 hor
    have hd : decR l = readP (l.take (decN l)) := by unfold decR; rw [if_pos ⟨h1, h2, h3⟩]
    have hsm2 : Small (l.take (decN l)) := fun y hy => hsm y (List.mem_of_mem_take hy)
    have hlen : (l.take (decN l)).length = decN l := by rw [List.length_take]; omega
    rcases hor with ⟨q, rfl⟩ | ⟨q1, q2, m, rfl, hF⟩
    · refine ⟨recZ, memZ, 0, 61, rfl, .inl ⟨by decide, by decide, ?_⟩⟩
      cases hr : decR l with
      | none => rfl
      | some r =>
        exfalso
        have hg : readP (l.take (decN l)) = some r := by rw [← hd]; exact hr
        have h2' := (readP_inv hg hsm2).2.2
        have hdd : decN (l.take (decN l)) = (l.take (decN l)).length := by
          rw [hlen]
          rw [hlen] at h2'
          rw [decN_take h2']
        obtain ⟨e1, e2, e3⟩ := (parse_law hsm2 hdd).1 r hg (hfit r hr)
        rw [e1] at q
        exact q ⟨e2, e3⟩
    · have hr := readP_enc q1 hF.at_.fits
      rw [q2] at hr
      exact ⟨_, m, _, 0, rfl, .inr ⟨rfl, rfl, by rw [hd]; exact hr, hF⟩⟩
theorem rdecode_rec {A : Option Addr} {c : Nat} {l rest : List Nat} {r : RecP} {w : World} (h : Bytes w w.heap.size A l) (hc : l.length ≤ c) (hl : l.length ≤ 8000) (el : l = encL r ++ rest) (hr : okR r = true) (hf : r.Fits) :
    Calls Tryz.prog 36 #[.slice A l.length c] w fun e w' => Below w.heap.size w w' ∧ ∃ m, e = .returned (.tuple #[.agg (recA r m), .int .i64 ((encL r).length : Nat), .int .i64 0]) ∧ RecFrom w.heap.size w' r m := by
  have hd : decR l = some r := by rw [el]; exact decR_of_enc hr hf rest
  have hn := (dec_enc hr hf rest).1
  rw [← el] at hn
  refine (rdecode_loop h hc hl fun r' e => by rw [hd] at e; injection e with e; rw [← e]; exact hf).mono ?_
  rintro e w' ⟨hb, r', m, n, no, rfl, hor⟩
  refine ⟨hb, ?_⟩
  rcases hor with ⟨-, -, q⟩ | ⟨rfl, rfl, q, hF⟩
  · rw [hd] at q
    cases q
  · rw [hd] at q
    injection q with q
    subst q
    exact ⟨m, by rw [hn]; rfl, hF⟩
end Go.Proofs.YtkganajbilnanaaGreat
namespace Go.Proofs.YtkganajbilnanaaGreat
open Go.ChangeShapes Go.WideShapes Go.ChangeAt Go.RowKit
open NumMath
set_option maxRecDepth 20000
def RReadRP (L : LogP) (rs : List RecP) (lsn : Nat) (w : World) (e : Ending) (w' : World) : Prop :=
  Below w.heap.size w w' ∧ ((∃ k r m, rs[k]? = some r ∧ lsn = L.h.base + offK rs k ∧ e = .returned (.tuple #[.agg (recA r m), .int .u64 ((lsn + (encL r).length : Nat) : Int), .int .i64 0]) ∧ RecFrom w.heap.size w' r m) ∨
    ((∀ k, k < rs.length → lsn ≠ L.h.base + offK rs k) ∧ e = .returned (.tuple #[.agg (recA recZ memZ), .int .u64 0, .int .i64 81])))
set_option maxHeartbeats 8000000 in
theorem rrd_any {L : LogP} {rs : List RecP} {D : DevP} {w : World} {F G : Nat → Prop} {gl : Nat} {pd sv st : Value} (h : RLg L D w F G gl pd sv st) (hk : L.fit rs) (hs62 : L.strips ≤ 62) (lsn : Nat) (hlsn : lsn < 18446744073709551616) :
    Calls Tryz.prog 49 #[.pointer (some ⟨gl, 0, none⟩), .int .u64 (lsn : Nat)] w (RReadRP L rs lsn w) := by
  have kz : Blk (w.alloc (.cells #[.int .u8 0, .int .u32 0, .int .u64 0, .int .u64 0, .int .u32 0, .int .u16 0, .bool false, .bool false, .slice none 0 0, .slice none 0 0, .slice none 0 0, .slice none 0 0] 51)) w.heap.size 51 (recA recZ memZ) := Blk.new w _ _
  have hb := below_alloc w (.cells #[.int .u8 0, .int .u32 0, .int .u64 0, .int .u64 0, .int .u32 0, .int .u16 0, .bool false, .bool false, .slice none 0 0, .slice none 0 0, .slice none 0 0, .slice none 0 0] 51)
  have HL := Lib.hid (h.below hb)
  have HFIT := Lib.hid hk
  obtain ⟨Av, cv, rfl, hcv, -⟩ := h.log.bytes
  obtain ⟨As, cs, rfl, hcs, -⟩ := h.log.places
  obtain ⟨ns, hns⟩ : ∃ ns, L.starts.length = ns := ⟨_, rfl⟩
  have hrn : rs.length = ns := by rw [← hns, hk.recs.cnt]
  have hcnt := hk.ok.cnt
  rw [hns] at hcnt
  have HNS := Lib.hid (And.intro hns hrn)
  clear h hk hns hrn
  go_enter Tryz.func49, Tryz.ntmps49
  go_upto_region 1 with fail
  generalize World.alloc w _ = w1 at *
  have hgz := kz.lt
  generalize hbx : w.heap.size = bx at *
  have hbs : bx ≤ w1.heap.size := by omega
  have HZ := Lib.hid kz
  have HB := Lib.hid hb
  have HBX := Lib.hid hbx
  clear kz hb hbx hcv hcs
  go_wp2_with fail
  go_loopw [7, 8, 9, 10] (fun kv _ _ _ wr => ∃ k : Nat, k ≤ ns ∧ kv = .int .i64 (k : Nat) ∧ (∀ j, j < k → lsn ≠ L.h.base + offK rs j) ∧ Drew w1 wr) (fun kv _ _ _ _ => ns - (intOf kv).toNat)
  case atStart => exact ⟨0, Nat.zero_le _, rfl, (fun j hj => absurd hj (by omega)), Drew.refl _⟩
  case round =>
    obtain ⟨k, hk, rfl, hno, hd⟩ := hrel
    have hBr := hd.below w1.heap.size
    have hLr := HL.out.below hBr
    have c5 : wr.cell? ⟨gl, 5, none⟩ = some (.slice As ns cs) := by rw [← HNS.out.1]; exact hLr.log.blk.cell 5
    rcases Nat.lt_or_ge k ns with hlt | hge
    · have e1 : decide ((k : Int) < (ns : Int)) = true := by rw [decide_eq_true_iff]; omega
      have e2 : (0 : Int) ≤ (k : Int) := by omega
      have e3 : (k : Int) < (ns : Int) := by omega
      have hkr : k < rs.length := by rw [HNS.out.2]; exact hlt
      have hxo := HFIT.out.recs.at_ hkr
      obtain ⟨x, hx⟩ : ∃ x, offK rs k = x := ⟨_, rfl⟩
      have hxl : x ≤ L.stream.length := by rw [← hx, HFIT.out.recs.stream]; exact offK_le _ _
      rw [hx] at hxo
      obtain ⟨As1, cs1, hse, hcs1, hps⟩ := hLr.log.places
      injection hse with hse1 hse2 hse3
      subst hse1
      subst hse3
      obtain ⟨hkp, hkx⟩ := List.getElem?_eq_some_iff.1 hxo
      obtain ⟨gs, os, rfl, hgs, hcel⟩ := hps k (by unfold placeV; rw [List.length_map]; exact hkp)
      unfold placeV at hcel
      rw [List.getElem_map, hkx] at hcel
      have cb : wr.cell? ⟨gl, 3, none⟩ = some (.int .u64 (L.h.base : Nat)) := hLr.log.blk.cell 3
      have hbase := HFIT.out.base
      have HNO : Hid (∀ j, j < k → lsn ≠ L.h.base + offK rs j) := Lib.hid hno
      have HX := Lib.hid hx
      obtain ⟨bs, hbs'⟩ : ∃ bs, L.h.base = bs := ⟨_, rfl⟩
      rw [hbs'] at cb hbase
      have HBS := Lib.hid hbs'
      obtain ⟨q, hq⟩ : ∃ q, bs + x = q := ⟨_, rfl⟩
      have v1 : IntKind.u64.wrap (x : Int) = (x : Int) := by rw [IntKind.wrap_u64]; omega
      have v2 : IntKind.u64.wrap ((bs : Int) + (x : Int)) = (q : Int) := by rw [IntKind.wrap_u64]; omega
      have HQ := Lib.hid hq
      have HD := Lib.hid hd
      have HXN := Lib.hid (And.intro hxl (And.intro hbase hxo))
      clear hno hx hbs' hq hd hBr hLr hse2 hcs1 hps hkp hkx hxl hbase hxo
      by_cases he : q = lsn
      · subst he
        go_upto_region 4 with fail
        go_quiet (fail)
        generalize hwq : World.drewN _ _ = w2
        have hd2 : Drew w1 w2 := by rw [← hwq]; exact HD.out.more _
        clear hwq v1 v2 hcel cb c5 hgs
        have hB2 := hd2.below w1.heap.size
        have hbw := HB.out.trans (hB2.mono hbs)
        have hbs2 : bx ≤ w2.heap.size := Nat.le_trans hbs hB2.size
        have kz2 := HZ.out.below hB2 hgz
        have HL2 := Lib.hid (HL.out.below hB2)
        have hlq : q = L.h.base + offK rs k := by rw [HBS.out, HX.out]; exact HQ.out.symm
        obtain ⟨r, hr⟩ : ∃ r, rs[k]? = some r := ⟨_, List.getElem?_eq_getElem hkr⟩
        have hrk : rs[k] = r := by rw [List.getElem?_eq_getElem hkr] at hr; exact Option.some.inj hr
        have hdr := drop_off rs hkr
        rw [← HFIT.out.recs.stream, hrk] at hdr
        obtain ⟨hok, hfr⟩ := HFIT.out.recs.good r (List.mem_of_getElem? hr)
        have hbe := HFIT.out.recs.behind hkr
        rw [offK_succ hkr, hrk] at hbe
        have hxn : offK rs k + (encL r).length ≤ L.stream.length := by
          have := congrArg List.length hdr
          rw [List.length_drop, List.length_append] at this
          have := offK_le rs k
          rw [← HFIT.out.recs.stream] at this
          have := (encL_len hok).1
          omega
        rw [HX.out] at hdr hxn hbe
        obtain ⟨nr, hnr⟩ : ∃ nr, (encL r).length = nr := ⟨_, rfl⟩
        rw [hnr] at hxn hbe
        have h27 := (encL_len hok).1
        rw [hnr] at h27
        have hbase := HXN.out.2.1
        have hlen := HFIT.out.len
        have OUTR : Hid (∀ W m, Below w2.heap.size w2 W → RecFrom w2.heap.size W r m → RReadRP L rs q w (.returned (.tuple #[.agg (recA r m), .int .u64 ((q + nr : Nat) : Int), .int .i64 0])) (W.setRow bx (recA r m))) := Lib.hid fun W m a b =>
          ⟨by rw [HBX.out]; exact (hbw.trans (a.mono hbs2)).trans ((only_row W bx (recA r m)).below (Nat.le_trans hbs2 a.size) fun x q => by omega), .inl ⟨k, r, m, hr, hlq, by rw [hnr], (b.only (S := fun q => q = bx) (only_row W bx (recA r m)) (fun q h => by have := kz2.lt; omega)).less (by rw [HBX.out]; exact hbs2)⟩⟩
        have HNR := Lib.hid hnr
        obtain ⟨n, hn⟩ : ∃ n, L.stream.length = n := ⟨_, rfl⟩
        rw [hn] at hbase hlen hxn
        obtain ⟨Av1, cv1, hse, hcv, hbv⟩ := HL2.out.log.bytes
        injection hse with hse1 hse2 hse3
        subst hse1
        subst hse3
        obtain ⟨As1, cs1, hse, hcs, hps⟩ := HL2.out.log.places
        injection hse with hse1 hse2' hse3
        subst hse3
        obtain ⟨hkp, hkx⟩ := List.getElem?_eq_some_iff.1 HXN.out.2.2
        obtain ⟨gs1, os1, hse4, hgs, hcel⟩ := hps k (by unfold placeV; rw [List.length_map]; exact hkp)
        subst hse4
        unfold placeV at hcel
        rw [List.getElem_map, hkx] at hcel
        obtain ⟨ga, oa, rfl, hga, -⟩ := hbv.1 0 (by rw [List.length_map]; omega)
        have k2 := HL2.out.log.blk
        have hgl := k2.lt
        rw [hn] at hcv
        injection hse1 with hse5
        injection hse5 with hse6 hse7
        subst hse6
        subst hse7
        have hns := HNS.out.1
        have CEL : Hid (∀ W, Below w2.heap.size w2 W → W.cell? ⟨gl, 4, none⟩ = some (.slice (some ⟨ga, oa, none⟩) n cv) ∧ W.cell? ⟨gl, 5, none⟩ = some (.slice (some ⟨gs, os, none⟩) ns cs) ∧ W.cell? ⟨gs, os + k, none⟩ = some (.int .i64 (x : Nat))) := Lib.hid fun W a => by
          have kk := k2.below a hgl
          exact ⟨by rw [← hn]; exact kk.cell 4, by rw [← hns]; exact kk.cell 5, (a.cell (p := ⟨gs, os + k, none⟩) hgs).trans hcel⟩
        have DEC : Hid (∀ W, Below w2.heap.size w2 W → Calls Tryz.prog 36 #[.slice (some ⟨ga, oa + x, none⟩) (n - x) (cv - x)] W fun e w' => Below W.heap.size W w' ∧ ∃ m, e = .returned (.tuple #[.agg (recA r m), .int .i64 (nr : Nat), .int .i64 0]) ∧ RecFrom W.heap.size w' r m) := Lib.hid fun W a => by
          have hbW : Bytes W W.heap.size (some ⟨ga, oa + x, none⟩) (L.stream.drop x) := ((hbv.below a).more a.size).drop x
          have := rdecode_rec (c := cv - x) hbW (by rw [List.length_drop, hn]; omega) (by rw [List.length_drop, hn]; omega) hdr hok hfr
          rw [List.length_drop, hn, hnr] at this
          exact this
        have BEH : Hid (∀ W, Below w2.heap.size w2 W → W.cell? ⟨gl, 3, none⟩ = some (.int .u64 (bs : Nat)) ∧ Calls Tryz.prog 101 #[.pointer (some ⟨gl, 0, none⟩), .int .i64 (k : Nat)] W fun e w' => e = .returned (.int .i64 ((x + nr : Nat) : Int)) ∧ W = w') := Lib.hid fun W a => by
          have := rbehind_any w2.heap.size k (k2.below a hgl) (hps.below a) (by omega)
          rw [hbe] at this
          exact ⟨by rw [← HBS.out]; exact (k2.below a hgl).cell 3, this⟩
        have i1 : (0 : Int) ≤ (k : Int) := by omega
        have i2 : (k : Int) < (ns : Int) := by omega
        have i3 : (0 : Int) ≤ (x : Int) := by omega
        have i4 : (x : Int) ≤ (n : Int) := by omega
        have i5 : (n : Int) ≤ (cv : Int) := by omega
        have i6 : (cv = x) = False := eq_false (by omega)
        obtain ⟨be, hbe2⟩ : ∃ be, x + nr = be := ⟨_, rfl⟩
        have V1 : Hid (IntKind.u64.wrap (be : Int) = (be : Int)) := Lib.hid (by rw [IntKind.wrap_u64]; omega)
        obtain ⟨nx, hnx⟩ : ∃ nx, q + nr = nx := ⟨_, rfl⟩
        have hqq := HQ.out
        have V2 : Hid (IntKind.u64.wrap ((bs : Int) + (be : Int)) = (nx : Int)) := Lib.hid (by rw [IntKind.wrap_u64]; omega)
        rw [hnx] at OUTR
        rw [hbe2] at BEH
        have KZ2 := Lib.hid kz2
        have hgz2 : bx < w2.heap.size := kz2.lt
        have hgl2 : gl < w2.heap.size := hgl
        have bd := below_drew0 w2
        go_upto_region 5 with fail
        clear hlq hr hrk hdr hok hfr hbe hxn hnr h27 hbase hlen hn hcv hbv hcs hps hkx hkp hcel k2 hnx kz2 hbw hB2 hd2 hbs hbs2 hse2 hse2' hns hbe2 hqq hgl hkr e1 e2 e3 hgs hga hk
        go_cut [8, 9, 10] (fun v9 v10 v11 wx => ∃ gx m, v9 = .pointer (some ⟨gx, 0, none⟩) ∧ v10 = .int .i64 (nr : Nat) ∧ v11 = .int .i64 0 ∧ Blk wx gx 51 (recA r m) ∧ RecFrom w2.heap.size wx r m ∧ Below w2.heap.size w2 wx ∧ w2.heap.size ≤ gx)
        case first =>
          go_wp2_with fail
          refine wp_region_noPanic ?_
          refine wp_region_held_drew (S := fun W => W.cell? ⟨gl, 4, none⟩ = some (.slice (some ⟨ga, oa, none⟩) n cv) ∧ W.cell? ⟨gl, 5, none⟩ = some (.slice (some ⟨gs, os, none⟩) ns cs) ∧ W.cell? ⟨gs, os + k, none⟩ = some (.int .i64 (x : Nat))) (by kernel_rfl) (CEL.out _ bd) (fun hHeld => ?_)
          refine wpAnyH_take (i := 0) (v := ?_) rfl (by kernel_rfl) (by kernel_rfl) (by kernel_rfl) (fun _ _ _ h => h) (Or.inl ⟨by rfl, ?_⟩) (by assumption) ?_
          rotate_left
          · (intro w hSw); (try dsimp only at hSw); go_simp; (try with_reducible rfl)
          try simp only [Act.put, List.getElem_toArray, List.getElem_cons_succ, List.getElem_cons_zero, List.setIfInBounds_toArray, List.set_cons_zero, List.set_cons_succ]
          refine wpAnyH_take (i := 1) (v := ?_) rfl (by kernel_rfl) (by kernel_rfl) (by kernel_rfl) (fun _ _ _ h => h) (Or.inl ⟨by rfl, ?_⟩) (by assumption) ?_
          rotate_left
          · (intro w hSw); (try dsimp only at hSw); go_simp; (try with_reducible rfl)
          try simp only [Act.put, List.getElem_toArray, List.getElem_cons_succ, List.getElem_cons_zero, List.setIfInBounds_toArray, List.set_cons_zero, List.set_cons_succ]
          refine wpAnyH_take (i := 2) (v := ?_) rfl (by kernel_rfl) (by kernel_rfl) (by kernel_rfl) (fun _ _ _ h => h) (Or.inl ⟨by rfl, ?_⟩) (by assumption) ?_
          rotate_left
          · (intro w hSw); (try dsimp only at hSw); go_simp; (try with_reducible rfl)
          try simp only [Act.put, List.getElem_toArray, List.getElem_cons_succ, List.getElem_cons_zero, List.setIfInBounds_toArray, List.set_cons_zero, List.set_cons_succ]
          refine wpAnyH_take (i := 3) (v := ?_) rfl (by kernel_rfl) (by kernel_rfl) (by kernel_rfl) (fun _ _ _ h => h) (Or.inl ⟨by rfl, ?_⟩) (by assumption) ?_
          rotate_left
          · (intro w hSw); (try dsimp only at hSw); go_simp; (try with_reducible rfl)
          try simp only [Act.put, List.getElem_toArray, List.getElem_cons_succ, List.getElem_cons_zero, List.setIfInBounds_toArray, List.set_cons_zero, List.set_cons_succ]
          refine wpAnyH_take (i := 4) (v := ?_) rfl (by kernel_rfl) (by kernel_rfl) (by kernel_rfl) (fun _ _ _ h => h) (Or.inl ⟨by rfl, ?_⟩) (by assumption) ?_
          rotate_left
          · (intro w hSw); (try dsimp only at hSw); go_simp; (try with_reducible rfl)
          try simp only [Act.put, List.getElem_toArray, List.getElem_cons_succ, List.getElem_cons_zero, List.setIfInBounds_toArray, List.set_cons_zero, List.set_cons_succ]
          refine wpAnyH_take (i := 5) (v := ?_) rfl (by kernel_rfl) (by kernel_rfl) (by kernel_rfl) (fun _ _ _ h => h) (Or.inl ⟨by rfl, ?_⟩) (by assumption) ?_
          rotate_left
          · (intro w hSw); (try dsimp only at hSw); go_simp; (try with_reducible rfl)
          try simp only [Act.put, List.getElem_toArray, List.getElem_cons_succ, List.getElem_cons_zero, List.setIfInBounds_toArray, List.set_cons_zero, List.set_cons_succ]
          refine wpAnyH_take (i := 6) (v := ?_) rfl (by kernel_rfl) (by kernel_rfl) (by kernel_rfl) (fun _ _ _ h => h) (Or.inl ⟨by rfl, ?_⟩) (by assumption) ?_
          rotate_left
          · (intro w hSw); (try dsimp only at hSw); go_simp; (try with_reducible rfl)
          try simp only [Act.put, List.getElem_toArray, List.getElem_cons_succ, List.getElem_cons_zero, List.setIfInBounds_toArray, List.set_cons_zero, List.set_cons_succ]
          refine wpAnyH_take (i := 7) (v := ?_) rfl (by kernel_rfl) (by kernel_rfl) (by kernel_rfl) (fun _ _ _ h => h) (Or.inl ⟨by rfl, ?_⟩) (by assumption) ?_
          rotate_left
          · (intro w hSw); (try dsimp only at hSw); go_simp; (try with_reducible rfl)
          try simp only [Act.put, List.getElem_toArray, List.getElem_cons_succ, List.getElem_cons_zero, List.setIfInBounds_toArray, List.set_cons_zero, List.set_cons_succ]
          refine wpAnyH_take (i := 8) (v := ?_) rfl (by kernel_rfl) (by kernel_rfl) (by kernel_rfl) (fun _ _ _ h => h) (Or.inl ⟨by rfl, ?_⟩) (by assumption) ?_
          rotate_left
          · (intro w hSw); (try dsimp only at hSw); go_simp; (try with_reducible rfl)
          try simp only [Act.put, List.getElem_toArray, List.getElem_cons_succ, List.getElem_cons_zero, List.setIfInBounds_toArray, List.set_cons_zero, List.set_cons_succ]
          refine wpAnyH_take (i := 9) (v := ?_) rfl (by kernel_rfl) (by kernel_rfl) (by kernel_rfl) (fun _ _ _ h => h) (Or.inl ⟨by rfl, ?_⟩) (by assumption) ?_
          rotate_left
          · (intro w hSw); (try dsimp only at hSw); go_simp; (try with_reducible rfl)
          try simp only [Act.put, List.getElem_toArray, List.getElem_cons_succ, List.getElem_cons_zero, List.setIfInBounds_toArray, List.set_cons_zero, List.set_cons_succ]
          refine wpAnyH_take (i := 10) (v := ?_) rfl (by kernel_rfl) (by kernel_rfl) (by kernel_rfl) (fun _ _ _ h => h) (Or.inl ⟨by rfl, ?_⟩) (by assumption) ?_
          rotate_left
          · (intro w hSw); (try dsimp only at hSw); go_simp; (try with_reducible rfl)
          try simp only [Act.put, List.getElem_toArray, List.getElem_cons_succ, List.getElem_cons_zero, List.setIfInBounds_toArray, List.set_cons_zero, List.set_cons_succ]
          refine wpAnyH_take (i := 11) (v := ?_) rfl (by kernel_rfl) (by kernel_rfl) (by kernel_rfl) (fun _ _ _ h => h) (Or.inl ⟨by rfl, ?_⟩) (by assumption) ?_
          rotate_left
          · (intro w hSw); (try dsimp only at hSw); go_simp; (try with_reducible rfl)
          try simp only [Act.put, List.getElem_toArray, List.getElem_cons_succ, List.getElem_cons_zero, List.setIfInBounds_toArray, List.set_cons_zero, List.set_cons_succ]
          refine wpAnyH_ready (rs := [12, 17]) (by kernel_rfl) (by simp) (AllReadyH.cons rfl (fun K hK => ?_) (AllReadyH.cons rfl (fun K hK => ?_) AllReadyH.nil))
          · try simp only [List.getElem_toArray, List.getElem_cons_succ, List.getElem_cons_zero]
            go_simp
            with_reducible refine (DEC.out _ bd).mono ?_
            rintro e w4 ⟨hb4, m, rfl, hfr⟩
            have b4 := bd.trans (hb4.mono bd.size)
            refine hK.out _ _ (CEL.out _ b4) (fun hHeld => ?_)
            clear hK K
            try simp only [Act.put, List.getElem_toArray, List.getElem_cons_succ, List.getElem_cons_zero, List.setIfInBounds_toArray, List.set_cons_zero, List.set_cons_succ]
            refine wpAnyH_take (i := 13) (v := ?_) rfl (by kernel_rfl) (by kernel_rfl) (by kernel_rfl) (fun _ _ _ h => h) (Or.inl ⟨by rfl, ?_⟩) (by assumption) ?_
            rotate_left
            · (intro w hSw); (try dsimp only at hSw); go_simp; (try with_reducible rfl)
            try simp only [Act.put, List.getElem_toArray, List.getElem_cons_succ, List.getElem_cons_zero, List.setIfInBounds_toArray, List.set_cons_zero, List.set_cons_succ]
            refine wpAnyH_take (i := 14) (v := ?_) rfl (by kernel_rfl) (by kernel_rfl) (by kernel_rfl) (fun _ _ _ h => h) (Or.inl ⟨by rfl, ?_⟩) (by assumption) ?_
            rotate_left
            · (intro w hSw); (try dsimp only at hSw); go_simp; (try with_reducible rfl)
            try simp only [Act.put, List.getElem_toArray, List.getElem_cons_succ, List.getElem_cons_zero, List.setIfInBounds_toArray, List.set_cons_zero, List.set_cons_succ]
            refine wpAnyH_take (i := 15) (v := ?_) rfl (by kernel_rfl) (by kernel_rfl) (by kernel_rfl) (fun _ _ _ h => h) (Or.inl ⟨by rfl, ?_⟩) (by assumption) ?_
            rotate_left
            · (intro w hSw); (try dsimp only at hSw); go_simp; (try with_reducible rfl)
            try simp only [Act.put, List.getElem_toArray, List.getElem_cons_succ, List.getElem_cons_zero, List.setIfInBounds_toArray, List.set_cons_zero, List.set_cons_succ]
            refine wpAnyH_take (i := 16) (v := ?_) rfl (by kernel_rfl) (by kernel_rfl) (by kernel_rfl) (fun _ _ _ h => h) (Or.inl ⟨by rfl, ?_⟩) (by assumption) ?_
            rotate_left
            · (intro w hSw); (try dsimp only at hSw); go_simp; (try with_reducible rfl)
            try simp only [Act.put, List.getElem_toArray, List.getElem_cons_succ, List.getElem_cons_zero, List.setIfInBounds_toArray, List.set_cons_zero, List.set_cons_succ]
            have ba := below_alloc w4 (.cells #[.int .u8 0, .int .u32 0, .int .u64 0, .int .u64 0, .int .u32 0, .int .u16 0, .bool false, .bool false, .slice none 0 0, .slice none 0 0, .slice none 0 0, .slice none 0 0] 51)
            have b5 := b4.trans (ba.mono b4.size)
            refine wpAnyH_ready (rs := [17]) (by kernel_rfl) (by simp) (AllReadyH.cons rfl (fun K hK => ?_) AllReadyH.nil)
            go_simp
            refine hK.out _ _ (CEL.out _ b5) (fun hHeld => ?_)
            clear hK K
            try simp only [Act.put, List.getElem_toArray, List.getElem_cons_succ, List.getElem_cons_zero, List.setIfInBounds_toArray, List.set_cons_zero, List.set_cons_succ]
            have bn := below_alloc w4 (.cells (recA r m) 51)
            have b6 := b4.trans (bn.mono b4.size)
            have FF : Hid (Blk (w4.alloc (.cells (recA r m) 51)) w4.heap.size 51 (recA r m) ∧ RecFrom w2.heap.size (w4.alloc (.cells (recA r m) 51)) r m ∧ Below w2.heap.size w2 (w4.alloc (.cells (recA r m) 51))) := Lib.hid ⟨Blk.new w4 _ _, RecFrom.less (RecFrom.only (S := fun _ => False) hfr (Only.of_below bn _) fun _ q => q.elim) bd.size, b6⟩
            refine wpAnyH_ready (rs := [18]) (by kernel_rfl) (by simp) (AllReadyH.cons rfl (fun K hK => ?_) AllReadyH.nil)
            refine step_store_run (by rfl) 51 (.tmp 8) (.tmp 49) _ _ (by rfl) (by rfl) (by rfl) (store_rec_new w4 r m) ?_
            refine hK.out _ _ (CEL.out _ b6) (fun hHeld => ?_)
            clear hK K
            try simp only [Act.put, List.getElem_toArray, List.getElem_cons_succ, List.getElem_cons_zero, List.setIfInBounds_toArray, List.set_cons_zero, List.set_cons_succ]
            refine wpAnyH_take (i := 19) (v := ?_) rfl (by kernel_rfl) (by kernel_rfl) (by kernel_rfl) (fun _ _ _ h => h) (Or.inl ⟨by rfl, ?_⟩) (by assumption) ?_
            rotate_left
            · (intro w hSw); (try dsimp only at hSw); go_simp; (try with_reducible rfl)
            try simp only [Act.put, List.getElem_toArray, List.getElem_cons_succ, List.getElem_cons_zero, List.setIfInBounds_toArray, List.set_cons_zero, List.set_cons_succ]
            refine wpAnyH_take (i := 20) (v := ?_) rfl (by kernel_rfl) (by kernel_rfl) (by kernel_rfl) (fun _ _ _ h => h) (Or.inl ⟨by rfl, ?_⟩) (by assumption) ?_
            rotate_left
            · (intro w hSw); (try dsimp only at hSw); go_simp; (try with_reducible rfl)
            try simp only [Act.put, List.getElem_toArray, List.getElem_cons_succ, List.getElem_cons_zero, List.setIfInBounds_toArray, List.set_cons_zero, List.set_cons_succ]
            refine wpAnyH_done (by kernel_rfl) ?_ _
            refine NoPanic.normal ?_
            go_wp2
            go_meet
            case rel => exact ⟨_, m, rfl, rfl, rfl, FF.out.1, FF.out.2.1, FF.out.2.2, (by first | exact Nat.le_refl _ | exact b4.size)⟩
          · try simp only [List.getElem_toArray, List.getElem_cons_succ, List.getElem_cons_zero]
            have ba := (below_alloc w2 (.cells #[.int .u8 0, .int .u32 0, .int .u64 0, .int .u64 0, .int .u32 0, .int .u16 0, .bool false, .bool false, .slice none 0 0, .slice none 0 0, .slice none 0 0, .slice none 0 0] 51)).drew
            have kn : Blk (w2.alloc (.cells #[.int .u8 0, .int .u32 0, .int .u64 0, .int .u64 0, .int .u32 0, .int .u16 0, .bool false, .bool false, .slice none 0 0, .slice none 0 0, .slice none 0 0, .slice none 0 0] 51)).drew w2.heap.size 51 (recA recZ memZ) := (Blk.new w2 _ _).drew
            go_simp
            refine hK.out _ _ (CEL.out _ ba) (fun hHeld => ?_)
            clear hK K
            try simp only [Act.put, List.getElem_toArray, List.getElem_cons_succ, List.getElem_cons_zero, List.setIfInBounds_toArray, List.set_cons_zero, List.set_cons_succ]
            refine wpAnyH_ready (rs := [12]) (by kernel_rfl) (by simp) (AllReadyH.cons rfl (fun K hK => ?_) AllReadyH.nil)
            go_simp
            with_reducible refine (DEC.out _ ba).mono ?_
            rintro e w4 ⟨hb4, m, rfl, hfr⟩
            have b4 := ba.trans (hb4.mono ba.size)
            have kb4 := kn.below hb4 kn.lt
            have hlo := kn.lt
            refine hK.out _ _ (CEL.out _ b4) (fun hHeld => ?_)
            clear hK K
            try simp only [Act.put, List.getElem_toArray, List.getElem_cons_succ, List.getElem_cons_zero, List.setIfInBounds_toArray, List.set_cons_zero, List.set_cons_succ]
            refine wpAnyH_take (i := 13) (v := ?_) rfl (by kernel_rfl) (by kernel_rfl) (by kernel_rfl) (fun _ _ _ h => h) (Or.inl ⟨by rfl, ?_⟩) (by assumption) ?_
            rotate_left
            · (intro w hSw); (try dsimp only at hSw); go_simp; (try with_reducible rfl)
            try simp only [Act.put, List.getElem_toArray, List.getElem_cons_succ, List.getElem_cons_zero, List.setIfInBounds_toArray, List.set_cons_zero, List.set_cons_succ]
            refine wpAnyH_take (i := 14) (v := ?_) rfl (by kernel_rfl) (by kernel_rfl) (by kernel_rfl) (fun _ _ _ h => h) (Or.inl ⟨by rfl, ?_⟩) (by assumption) ?_
            rotate_left
            · (intro w hSw); (try dsimp only at hSw); go_simp; (try with_reducible rfl)
            try simp only [Act.put, List.getElem_toArray, List.getElem_cons_succ, List.getElem_cons_zero, List.setIfInBounds_toArray, List.set_cons_zero, List.set_cons_succ]
            refine wpAnyH_take (i := 15) (v := ?_) rfl (by kernel_rfl) (by kernel_rfl) (by kernel_rfl) (fun _ _ _ h => h) (Or.inl ⟨by rfl, ?_⟩) (by assumption) ?_
            rotate_left
            · (intro w hSw); (try dsimp only at hSw); go_simp; (try with_reducible rfl)
            try simp only [Act.put, List.getElem_toArray, List.getElem_cons_succ, List.getElem_cons_zero, List.setIfInBounds_toArray, List.set_cons_zero, List.set_cons_succ]
            refine wpAnyH_take (i := 16) (v := ?_) rfl (by kernel_rfl) (by kernel_rfl) (by kernel_rfl) (fun _ _ _ h => h) (Or.inl ⟨by rfl, ?_⟩) (by assumption) ?_
            rotate_left
            · (intro w hSw); (try dsimp only at hSw); go_simp; (try with_reducible rfl)
            try simp only [Act.put, List.getElem_toArray, List.getElem_cons_succ, List.getElem_cons_zero, List.setIfInBounds_toArray, List.set_cons_zero, List.set_cons_succ]
            have b6 := b4.trans ((only_row w4 w2.heap.size (recA r m)).below b4.size fun q h => by rw [h]; exact Nat.le_refl _)
            have FF : Hid (Blk (w4.setRow w2.heap.size (recA r m)) w2.heap.size 51 (recA r m) ∧ RecFrom w2.heap.size (w4.setRow w2.heap.size (recA r m)) r m ∧ Below w2.heap.size w2 (w4.setRow w2.heap.size (recA r m))) := Lib.hid ⟨row_blk kb4 _, RecFrom.less (RecFrom.only (S := fun b => b = w2.heap.size) hfr (only_row w4 w2.heap.size (recA r m)) fun b q => by rw [q]; exact hlo) ba.size, b6⟩
            refine wpAnyH_ready (rs := [18]) (by kernel_rfl) (by simp) (AllReadyH.cons rfl (fun K hK => ?_) AllReadyH.nil)
            refine step_store_run (by rfl) 51 (.tmp 8) (.tmp 49) _ _ (by rfl) (by rfl) (by rfl) (store_rec_all kb4 rfl r m) ?_
            refine hK.out _ _ (CEL.out _ b6) (fun hHeld => ?_)
            clear hK K
            try simp only [Act.put, List.getElem_toArray, List.getElem_cons_succ, List.getElem_cons_zero, List.setIfInBounds_toArray, List.set_cons_zero, List.set_cons_succ]
            refine wpAnyH_take (i := 19) (v := ?_) rfl (by kernel_rfl) (by kernel_rfl) (by kernel_rfl) (fun _ _ _ h => h) (Or.inl ⟨by rfl, ?_⟩) (by assumption) ?_
            rotate_left
            · (intro w hSw); (try dsimp only at hSw); go_simp; (try with_reducible rfl)
            try simp only [Act.put, List.getElem_toArray, List.getElem_cons_succ, List.getElem_cons_zero, List.setIfInBounds_toArray, List.set_cons_zero, List.set_cons_succ]
            refine wpAnyH_take (i := 20) (v := ?_) rfl (by kernel_rfl) (by kernel_rfl) (by kernel_rfl) (fun _ _ _ h => h) (Or.inl ⟨by rfl, ?_⟩) (by assumption) ?_
            rotate_left
            · (intro w hSw); (try dsimp only at hSw); go_simp; (try with_reducible rfl)
            try simp only [Act.put, List.getElem_toArray, List.getElem_cons_succ, List.getElem_cons_zero, List.setIfInBounds_toArray, List.set_cons_zero, List.set_cons_succ]
            refine wpAnyH_done (by kernel_rfl) ?_ _
            refine NoPanic.normal ?_
            go_wp2
            go_meet
            case rel => exact ⟨_, m, rfl, rfl, rfl, FF.out.1, FF.out.2.1, FF.out.2.2, (by first | exact Nat.le_refl _ | exact b4.size)⟩
        case rest =>
          rename World => wx
          obtain ⟨gx, m, rfl, rfl, rfl, kx, hfx, hbx2, hgx2⟩ := hcut
          have bdx := below_drew0 wx
          have hgx := kx.lt
          have hnex : gx ≠ bx ∧ gx ≠ gl := ⟨by omega, by omega⟩
          have st := store_rec_all ((KZ2.out.below hbx2 hgz2).drew) rfl r m
          have kxd := kx.drew
          have oR := only_row wx.drew bx (recA r m)
          have kxR := kxd.only oR hnex.1
          have hglx := HL2.out.log.blk.below (hbx2.trans (bdx.mono hbx2.size)) hgl2
          have kglR := hglx.only oR (fun e => by subst e; exact absurd (((KZ2.out.below hbx2 hgz2).drew).ty.uniq hglx.ty) (by decide))
          have K2 := Lib.hid (row_blk ((KZ2.out.below hbx2 hgz2).drew) (recA r m))
          have FIN := Lib.hid (OUTR.out wx.drew m (hbx2.trans (bdx.mono hbx2.size)) (hfx.only (S := fun _ => False) (Only.of_below bdx _) fun b q => q.elim))
          obtain ⟨y0, cbe⟩ := BEH.out wx.drew (hbx2.trans (bdx.mono hbx2.size))
          have x0 : wx.drew.cell? ⟨gx, 0, none⟩ = some (.int .u8 (r.kind : Nat)) ∧ wx.drew.cell? ⟨gx, 1, none⟩ = some (.int .u32 (r.txn : Nat)) ∧ wx.drew.cell? ⟨gx, 2, none⟩ = some (.int .u64 (r.prev : Nat)) ∧ wx.drew.cell? ⟨gx, 3, none⟩ = some (.int .u64 (r.next : Nat)) ∧ wx.drew.cell? ⟨gx, 4, none⟩ = some (.int .u32 (r.chg.page : Nat)) ∧ wx.drew.cell? ⟨gx, 5, none⟩ = some (.int .u16 (r.chg.slot : Nat)) ∧ wx.drew.cell? ⟨gx, 6, none⟩ = some (.bool r.chg.had) ∧ wx.drew.cell? ⟨gx, 7, none⟩ = some (.bool r.chg.has) ∧ wx.drew.cell? ⟨gx, 8, none⟩ = some (.slice m.cm.A1 r.chg.before.length m.cm.c1) ∧ wx.drew.cell? ⟨gx, 9, none⟩ = some (.slice m.cm.A2 r.chg.after.length m.cm.c2) ∧ wx.drew.cell? ⟨gx, 10, none⟩ = some (.slice m.A3 r.txns.length m.c3) ∧ wx.drew.cell? ⟨gx, 11, none⟩ = some (.slice m.A4 r.pages.length m.c4) ∧ wx.drew.cell? ⟨gl, 3, none⟩ = some (.int .u64 (bs : Nat)) := ⟨kxd.cell 0, kxd.cell 1, kxd.cell 2, kxd.cell 3, kxd.cell 4, kxd.cell 5, kxd.cell 6, kxd.cell 7, kxd.cell 8, kxd.cell 9, kxd.cell 10, kxd.cell 11, y0⟩
          have y2 : (wx.drew.setRow bx (recA r m)).cell? ⟨gl, 3, none⟩ = some (.int .u64 (bs : Nat)) := by rw [← HBS.out]; exact kglR.cell 3
          have x2 : (wx.drew.setRow bx (recA r m)).cell? ⟨gx, 0, none⟩ = some (.int .u8 (r.kind : Nat)) ∧ (wx.drew.setRow bx (recA r m)).cell? ⟨gx, 1, none⟩ = some (.int .u32 (r.txn : Nat)) ∧ (wx.drew.setRow bx (recA r m)).cell? ⟨gx, 2, none⟩ = some (.int .u64 (r.prev : Nat)) ∧ (wx.drew.setRow bx (recA r m)).cell? ⟨gx, 3, none⟩ = some (.int .u64 (r.next : Nat)) ∧ (wx.drew.setRow bx (recA r m)).cell? ⟨gx, 4, none⟩ = some (.int .u32 (r.chg.page : Nat)) ∧ (wx.drew.setRow bx (recA r m)).cell? ⟨gx, 5, none⟩ = some (.int .u16 (r.chg.slot : Nat)) ∧ (wx.drew.setRow bx (recA r m)).cell? ⟨gx, 6, none⟩ = some (.bool r.chg.had) ∧ (wx.drew.setRow bx (recA r m)).cell? ⟨gx, 7, none⟩ = some (.bool r.chg.has) ∧ (wx.drew.setRow bx (recA r m)).cell? ⟨gx, 8, none⟩ = some (.slice m.cm.A1 r.chg.before.length m.cm.c1) ∧ (wx.drew.setRow bx (recA r m)).cell? ⟨gx, 9, none⟩ = some (.slice m.cm.A2 r.chg.after.length m.cm.c2) ∧ (wx.drew.setRow bx (recA r m)).cell? ⟨gx, 10, none⟩ = some (.slice m.A3 r.txns.length m.c3) ∧ (wx.drew.setRow bx (recA r m)).cell? ⟨gx, 11, none⟩ = some (.slice m.A4 r.pages.length m.c4) ∧ (wx.drew.setRow bx (recA r m)).cell? ⟨gl, 3, none⟩ = some (.int .u64 (bs : Nat)) := ⟨kxR.cell 0, kxR.cell 1, kxR.cell 2, kxR.cell 3, kxR.cell 4, kxR.cell 5, kxR.cell 6, kxR.cell 7, kxR.cell 8, kxR.cell 9, kxR.cell 10, kxR.cell 11, y2⟩
          have v1 := V1.out
          have v2 := V2.out
          clear kx hfx hbx2 OUTR kxd kxR kglR hglx oR hnex hgx BEH y0 y2 bdx
          go_wp2_with fail
          refine wp_region_noPanic ?_
          refine wp_region_held_drew (S := fun W => W.cell? ⟨gx, 0, none⟩ = some (.int .u8 (r.kind : Nat)) ∧ W.cell? ⟨gx, 1, none⟩ = some (.int .u32 (r.txn : Nat)) ∧ W.cell? ⟨gx, 2, none⟩ = some (.int .u64 (r.prev : Nat)) ∧ W.cell? ⟨gx, 3, none⟩ = some (.int .u64 (r.next : Nat)) ∧ W.cell? ⟨gx, 4, none⟩ = some (.int .u32 (r.chg.page : Nat)) ∧ W.cell? ⟨gx, 5, none⟩ = some (.int .u16 (r.chg.slot : Nat)) ∧ W.cell? ⟨gx, 6, none⟩ = some (.bool r.chg.had) ∧ W.cell? ⟨gx, 7, none⟩ = some (.bool r.chg.has) ∧ W.cell? ⟨gx, 8, none⟩ = some (.slice m.cm.A1 r.chg.before.length m.cm.c1) ∧ W.cell? ⟨gx, 9, none⟩ = some (.slice m.cm.A2 r.chg.after.length m.cm.c2) ∧ W.cell? ⟨gx, 10, none⟩ = some (.slice m.A3 r.txns.length m.c3) ∧ W.cell? ⟨gx, 11, none⟩ = some (.slice m.A4 r.pages.length m.c4) ∧ W.cell? ⟨gl, 3, none⟩ = some (.int .u64 (bs : Nat))) (by kernel_rfl) x0 (fun hHeld => ?_)
          refine wpAnyH_take (i := 0) (v := ?_) rfl (by kernel_rfl) (by kernel_rfl) (by kernel_rfl) (fun _ _ _ h => h) (Or.inl ⟨by rfl, ?_⟩) (by assumption) ?_
          rotate_left
          · (intro w hSw); (try dsimp only at hSw); go_simp; (try with_reducible rfl)
          try simp only [Act.put, List.getElem_toArray, List.getElem_cons_succ, List.getElem_cons_zero, List.setIfInBounds_toArray, List.set_cons_zero, List.set_cons_succ]
          refine wpAnyH_take (i := 1) (v := ?_) rfl (by kernel_rfl) (by kernel_rfl) (by kernel_rfl) (fun _ _ _ h => h) (Or.inl ⟨by rfl, ?_⟩) (by assumption) ?_
          rotate_left
          · (intro w hSw); (try dsimp only at hSw); go_simp; (try with_reducible rfl)
          try simp only [Act.put, List.getElem_toArray, List.getElem_cons_succ, List.getElem_cons_zero, List.setIfInBounds_toArray, List.set_cons_zero, List.set_cons_succ]
          refine wpAnyH_take (i := 2) (v := ?_) rfl (by kernel_rfl) (by kernel_rfl) (by kernel_rfl) (fun _ _ _ h => h) (Or.inl ⟨by rfl, ?_⟩) (by assumption) ?_
          rotate_left
          · (intro w hSw); (try dsimp only at hSw); go_simp; (try with_reducible rfl)
          try simp only [Act.put, List.getElem_toArray, List.getElem_cons_succ, List.getElem_cons_zero, List.setIfInBounds_toArray, List.set_cons_zero, List.set_cons_succ]
          refine wpAnyH_take (i := 3) (v := ?_) rfl (by kernel_rfl) (by kernel_rfl) (by kernel_rfl) (fun _ _ _ h => h) (Or.inl ⟨by rfl, ?_⟩) (by assumption) ?_
          rotate_left
          · (intro w hSw); (try dsimp only at hSw); go_simp; (try with_reducible rfl)
          try simp only [Act.put, List.getElem_toArray, List.getElem_cons_succ, List.getElem_cons_zero, List.setIfInBounds_toArray, List.set_cons_zero, List.set_cons_succ]
          refine wpAnyH_take (i := 4) (v := ?_) rfl (by kernel_rfl) (by kernel_rfl) (by kernel_rfl) (fun _ _ _ h => h) (Or.inl ⟨by rfl, ?_⟩) (by assumption) ?_
          rotate_left
          · (intro w hSw); (try dsimp only at hSw); go_simp; (try with_reducible rfl)
          try simp only [Act.put, List.getElem_toArray, List.getElem_cons_succ, List.getElem_cons_zero, List.setIfInBounds_toArray, List.set_cons_zero, List.set_cons_succ]
          refine wpAnyH_take (i := 5) (v := ?_) rfl (by kernel_rfl) (by kernel_rfl) (by kernel_rfl) (fun _ _ _ h => h) (Or.inl ⟨by rfl, ?_⟩) (by assumption) ?_
          rotate_left
          · (intro w hSw); (try dsimp only at hSw); go_simp; (try with_reducible rfl)
          try simp only [Act.put, List.getElem_toArray, List.getElem_cons_succ, List.getElem_cons_zero, List.setIfInBounds_toArray, List.set_cons_zero, List.set_cons_succ]
          refine wpAnyH_take (i := 6) (v := ?_) rfl (by kernel_rfl) (by kernel_rfl) (by kernel_rfl) (fun _ _ _ h => h) (Or.inl ⟨by rfl, ?_⟩) (by assumption) ?_
          rotate_left
          · (intro w hSw); (try dsimp only at hSw); go_simp; (try with_reducible rfl)
          try simp only [Act.put, List.getElem_toArray, List.getElem_cons_succ, List.getElem_cons_zero, List.setIfInBounds_toArray, List.set_cons_zero, List.set_cons_succ]
          refine wpAnyH_ready (rs := [7]) (by kernel_rfl) (by simp) (AllReadyH.cons rfl (fun K hK => ?_) AllReadyH.nil)
          go_simp
          with_reducible refine cbe.mono ?_
          rintro e w3 ⟨rfl, rfl⟩
          refine hK.out _ _ x0 (fun hHeld => ?_)
          clear hK K
          try simp only [Act.put, List.getElem_toArray, List.getElem_cons_succ, List.getElem_cons_zero, List.setIfInBounds_toArray, List.set_cons_zero, List.set_cons_succ]
          refine wpAnyH_take (i := 8) (v := ?_) rfl (by kernel_rfl) (by kernel_rfl) (by kernel_rfl) (fun _ _ _ h => h) (Or.inl ⟨by rfl, ?_⟩) (by assumption) ?_
          rotate_left
          · (intro w hSw); (try dsimp only at hSw); go_simp; (try with_reducible rfl)
          try simp only [Act.put, List.getElem_toArray, List.getElem_cons_succ, List.getElem_cons_zero, List.setIfInBounds_toArray, List.set_cons_zero, List.set_cons_succ]
          refine wpAnyH_take (i := 9) (v := ?_) rfl (by kernel_rfl) (by kernel_rfl) (by kernel_rfl) (fun _ _ _ h => h) (Or.inl ⟨by rfl, ?_⟩) (by assumption) ?_
          rotate_left
          · (intro w hSw); (try dsimp only at hSw); go_simp; (try with_reducible rfl)
          try simp only [Act.put, List.getElem_toArray, List.getElem_cons_succ, List.getElem_cons_zero, List.setIfInBounds_toArray, List.set_cons_zero, List.set_cons_succ]
          refine wpAnyH_ready (rs := [10]) (by kernel_rfl) (by simp) (AllReadyH.cons rfl (fun K hK => ?_) AllReadyH.nil)
          refine step_store_run (by rfl) 51 (.tmp 4) (.tmp 52) _ _ (by rfl) (by rfl) (by rfl) st ?_
          refine hK.out _ _ x2 (fun hHeld => ?_)
          clear hK K
          try simp only [Act.put, List.getElem_toArray, List.getElem_cons_succ, List.getElem_cons_zero, List.setIfInBounds_toArray, List.set_cons_zero, List.set_cons_succ]
          refine wpAnyH_take (i := 11) (v := ?_) rfl (by kernel_rfl) (by kernel_rfl) (by kernel_rfl) (fun _ _ _ h => h) (Or.inl ⟨by rfl, ?_⟩) (by assumption) ?_
          rotate_left
          · (intro w hSw); (try dsimp only at hSw); go_simp; (try with_reducible rfl)
          try simp only [Act.put, List.getElem_toArray, List.getElem_cons_succ, List.getElem_cons_zero, List.setIfInBounds_toArray, List.set_cons_zero, List.set_cons_succ]
          refine wpAnyH_take (i := 12) (v := ?_) rfl (by kernel_rfl) (by kernel_rfl) (by kernel_rfl) (fun _ _ _ h => h) (Or.inl ⟨by rfl, ?_⟩) (by assumption) ?_
          rotate_left
          · (intro w hSw); (try dsimp only at hSw); go_simp; (try with_reducible rfl)
          try simp only [Act.put, List.getElem_toArray, List.getElem_cons_succ, List.getElem_cons_zero, List.setIfInBounds_toArray, List.set_cons_zero, List.set_cons_succ]
          refine wpAnyH_done (by kernel_rfl) ?_ _
          refine NoPanic.normal ?_
          go_wp2
          refine bodyPost_ret (results_dec rfl _ _ bx _ rfl (load_whole K2.out)) rfl ?_
          exact FIN.out
      · have t1 : ((q : Int) == (lsn : Int)) = false := by rw [beq_eq_false_iff_ne]; omega
        have HN2 : Hid (∀ j, j < k + 1 → lsn ≠ L.h.base + offK rs j) := Lib.hid fun j hj e => by
          rcases Nat.lt_or_ge j k with z | z
          · exact HNO.out j z e
          · obtain rfl : j = k := by omega
            rw [HX.out, HBS.out] at e
            have := HQ.out
            omega
        go_upto_region 4 with fail
        go_quiet (fail)
        generalize hwq : World.drewN _ _ = w2
        have hd2 : Drew w1 w2 := by rw [← hwq]; exact HD.out.more _
        clear hwq v1 v2 hcel cb c5 hkr
        go_wp2
        go_roundw
        case rel => exact ⟨k + 1, by omega, by go_num, HN2.out, hd2⟩
        case measure => simp [intOf]; omega
    · obtain rfl : k = ns := by omega
      have e1 : decide ((k : Int) < (k : Int)) = false := by rw [decide_eq_false_iff_not]; omega
      have kz2 := HZ.out.below hBr hgz
      have hbs2 : bx ≤ wr.heap.size := Nat.le_trans hbs hBr.size
      have st := store_rec_all kz2 rfl recZ memZ
      have K2 := Lib.hid (row_blk kz2 (recA recZ memZ))
      have hbw := HB.out.trans (hBr.mono hbs)
      have FIN : Hid (RReadRP L rs lsn w (.returned (.tuple #[.agg (recA recZ memZ), .int .u64 0, .int .i64 81])) (wr.setRow bx (recA recZ memZ))) := Lib.hid ⟨by rw [HBX.out]; exact hbw.trans ((only_row wr bx (recA recZ memZ)).below hbs2 fun x q => by omega), .inr ⟨fun j q => hno j (by rw [HNS.out.2] at q; exact q), rfl⟩⟩
      clear kz2 hbw hno hd hBr hLr hbs2
      go_wp2_with (refine wpList_store_run rfl 51 (.tmp 4) (.tmp 62) _ _ rfl rfl rfl st ?_; clear st)
      refine bodyPost_ret (results_dec rfl _ _ bx _ rfl (load_whole K2.out)) rfl ?_
      exact FIN.out
end Go.Proofs.YtkganajbilnanaaGreat
