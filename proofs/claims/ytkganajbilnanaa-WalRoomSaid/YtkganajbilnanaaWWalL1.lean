/- WalRoom: the law's walk. Conditions: the calls, the record lie there. -/
import Derived.Test.YtkganajbilnanaaWWalRu
import Derived.Test.YtkganajbilnanaaWWalArgs
namespace Go.Proofs.Ytkganajbilnanaa
open Go.ChangeShapes Go.WideShapes Go.ChangeAt Go.RowKit
open NumMath
set_option linter.unusedVariables false
set_option linter.unusedSimpArgs false
set_option maxRecDepth 20000

theorem WOpsAt.more8 {w : World} {B B' : Nat} {A : Option Addr} {l : List WOp} (h : WOpsAt w B A l) (hB : B ≤ B') : WOpsAt w B' A l := fun j hj => by
  obtain ⟨b, o, m, Af, cf, e, h0, hc, hv⟩ := h j hj
  exact ⟨b, o, m, Af, cf, e, by omega, hc, ⟨hv.rc.more hB, ⟨hv.fa.1.more hB, hv.fa.2⟩, hv.kind, hv.spare, hv.at_⟩⟩
/-- what Append comes to -/
theorem app_plain {L : LogP} {r : RecP} {spare : Nat} : ((appP L r spare).1.2 ≠ 0 ∧ (appP L r spare).1.1 = 0 ∧ (appP L r spare).2 = L) ∨
    ((appP L r spare).1.2 = 0 ∧ (appP L r spare).1.1 = L.h.base + L.stream.length ∧ spare ≤ L.strips * 127 ∧ L.stream.length + (encL r).length ≤ L.strips * 127 - spare ∧ (appP L r spare).2 = { L with starts := L.starts ++ [L.stream.length], stream := L.stream ++ encL r }) := by
  unfold appP
  split
  · exact .inl ⟨(show (61 : Nat) ≠ 0 by decide), rfl, rfl⟩
  · split
    · exact .inl ⟨(show (80 : Nat) ≠ 0 by decide), rfl, rfl⟩
    · rename_i h1 h2
      exact .inr ⟨rfl, rfl, by omega, by omega, rfl⟩
theorem encL_pos8 (r : RecP) : 0 < (encL r).length := by rw [encL_length]; omega
theorem heavy8_no {size : Int} {l : List WOp} (h : heavy8 size l = false) : size ≤ 120 ∧ l.length ≤ 40 := by
  unfold heavy8 at h
  simp only [Bool.or_eq_false_iff, decide_eq_false_iff_not] at h
  omega
theorem max8 (size : Int) (h : size ≤ 120) : ∃ a : Nat, (if size < 18 then 18 else size) = (a : Int) ∧ 18 ≤ a ∧ a ≤ 1400 := by
  split
  · exact ⟨18, rfl, by omega, by omega⟩
  · exact ⟨size.toNat, by omega, by omega, by omega⟩
def opR (r : RecP) : WOp := ⟨0, r, 0, 0, []⟩
theorem FatesAt.nil8 (w : World) (B : Nat) : FatesAt w B none [] := ⟨At.nil _ _ _, fun x hx => by cases hx⟩
theorem opR_at {w : World} {B : Nat} {r : RecP} {m : RecMm} (h : RecAt w B r m) (hB : B ≤ w.heap.size) (t : TypeId) (f : Nat × Nat) (cs : List Value) (hcs : cs = wopA (opR r) m none 0) : WOpsAt (w.alloc (.cells cs.toArray t f)) (w.heap.size + 1) (some ⟨w.heap.size, 0, none⟩) [opR r] := by
  subst hcs
  have hb := (Below.refl w.heap.size w).alloc (Nat.le_refl _) (.cells (wopA (opR r) m none 0).toArray t f)
  intro j hj
  obtain rfl : j = 0 := by simpa using hj
  refine ⟨w.heap.size, 0, m, none, 0, rfl, by omega, fun i v hv => ?_, ⟨(h.below (hb.mono hB)).more (by omega), FatesAt.nil8 _ _, by show 0 < 256; decide, by show 0 < _; decide, by show 0 < _; decide⟩⟩
  have := new_row_cells w (wopA (opR r) m none 0) t f i v hv
  rw [add_none] at this
  simpa using this
/-- a guarded load -/
theorem wpList_load_want {P : Program} {w : World} {ops : Array Oper} {rest : List Oper} {o : Oper} {a : Act} {Q : Exit → Act → World → Prop} (hw : Region.wanted o (yielded ops a.tmps) = true) (t : TypeId) (x : Operand) (X v : Value) (ho : o.op = .load t x) (hx : a.eval x = X)
    (hr : (Instr.loadAt t X).run P w = .ok v w) (h : wpList P ops Q rest (a.put o.dst v) w) : wpList P ops Q (o :: rest) a w :=
  BigFrame.wpList_want hw fun K hK => wp_load_run t x X v ho hx hr (hK _ _ h)
set_option maxHeartbeats 16000000 in
theorem walRoom_walk (v0 v1 v2 v3 : Value) (w : World) (w0 : IsInt .i64 w v0) (w1 : IsOps8 w v1) (w2 : IsRec w v2) (w3 : IsInt .u64 w v3) :
    Calls Try.prog 3 #[v0, v1, v2, v3] w fun e w' => e = .returned (.bool true) ∧ Below w.heap.size w w' := by
  obtain ⟨sz, rfl, -⟩ := w0
  obtain ⟨A, c, l, rfl, hl⟩ := w1
  obtain ⟨r, m, rfl, hr⟩ := w2
  obtain ⟨sp', rfl, hsp⟩ := w3
  obtain ⟨sp, rfl, hspn⟩ := nat_u64 hsp
  clear hsp
  have kr := Blk.new w 32 (recA r m)
  have b1 := below_alloc w (.cells (recA r m) 32)
  go_enter Try.func3, Try.ntmps3
  go_upto_region 1 with fail
  have hR := (hr.below b1).more b1.size
  have hL := (hl.below b1).more8 b1.size
  generalize World.alloc w _ = w1 at *
  have hgr := kr.lt
  obtain ⟨gr, hgre⟩ : ∃ g, w.heap.size = g := ⟨_, rfl⟩
  rw [hgre] at kr hgr
  rw [hgre]
  have HGR := Lib.hid hgre
  have HB1 := Lib.hid b1
  have HR := Lib.hid hR
  have HL := Lib.hid hL
  have LDR : Hid (∀ W, Below w1.heap.size w1 W → (Instr.loadAt 32 (.pointer (some ⟨gr, 0, none⟩))).run Try.prog W = .ok (.agg #[.int .u8 (r.kind : Nat), .int .u32 (r.txn : Nat), .int .u64 (r.prev : Nat), .int .u64 (r.next : Nat), .int .u32 (r.chg.page : Nat), .int .u16 (r.chg.slot : Nat), .bool r.chg.had, .bool r.chg.has, .slice m.cm.A1 r.chg.before.length m.cm.c1, .slice m.cm.A2 r.chg.after.length m.cm.c2, .slice m.A3 r.txns.length m.c3, .slice m.A4 r.pages.length m.c4]) W) := Lib.hid fun W hW => load_rec (kr.below hW hgr)
  have FIN : Hid (∀ W, Below w1.heap.size w1 W → Below w.heap.size w W) := Lib.hid fun W a => HB1.out.trans (a.mono HB1.out.size)
  clear kr b1 hr hl hR hL hgr hgre
  have ch := heavy8_any sz A c l w1.heap.size w1 HL.out (Nat.le_refl _)
  obtain ⟨n, hn⟩ : ∃ n, l.length = n := ⟨_, rfl⟩
  rw [hn] at ch
  rw [hn]
  obtain ⟨hv, hhv⟩ : ∃ q, heavy8 sz l = q := ⟨_, rfl⟩
  rw [hhv] at ch
  have HN := Lib.hid hn
  have HHV := Lib.hid hhv
  clear hn hhv
  cases hv with
  | true =>
    go_wp2_with fail
    refine ch.mono ?_
    rintro e w2 ⟨rfl, hb2⟩
    go_wp2_with fail
    refine (kn_any w2).mono ?_
    rintro e w3 ⟨rfl, hb3⟩
    go_wp2
    go_ret
    exact ⟨rfl, FIN.out _ (hb2.trans (hb3.mono hb2.size))⟩
  | false =>
    go_wp2_with fail
    refine ch.mono ?_
    rintro e w2 ⟨rfl, hb2⟩
    clear ch
    have ld := LDR.out w2 hb2
    have hop := opR_at (HR.out.below hb2) hb2.size 36 (0, 0) [.int .u8 0, .int .u8 (r.kind : Nat), .int .u32 (r.txn : Nat), .int .u64 (r.prev : Nat), .int .u64 (r.next : Nat), .int .u32 (r.chg.page : Nat), .int .u16 (r.chg.slot : Nat), .bool r.chg.had, .bool r.chg.has, .slice m.cm.A1 r.chg.before.length m.cm.c1, .slice m.cm.A2 r.chg.after.length m.cm.c2, .slice m.A3 r.txns.length m.c3, .slice m.A4 r.pages.length m.c4, .int .u64 0, .int .u64 0, .slice none 0 0] rfl
    have hb3 : Below w1.heap.size w1 _ := hb2.trans ((below_alloc w2 (.cells [.int .u8 0, .int .u8 (r.kind : Nat), .int .u32 (r.txn : Nat), .int .u64 (r.prev : Nat), .int .u64 (r.next : Nat), .int .u32 (r.chg.page : Nat), .int .u16 (r.chg.slot : Nat), .bool r.chg.had, .bool r.chg.has, .slice m.cm.A1 r.chg.before.length m.cm.c1, .slice m.cm.A2 r.chg.after.length m.cm.c2, .slice m.A3 r.txns.length m.c3, .slice m.A4 r.pages.length m.c4, .int .u64 0, .int .u64 0, .slice none 0 0].toArray 36)).mono hb2.size)
    have hz3 := World.size_alloc w2 (.cells [.int .u8 0, .int .u8 (r.kind : Nat), .int .u32 (r.txn : Nat), .int .u64 (r.prev : Nat), .int .u64 (r.next : Nat), .int .u32 (r.chg.page : Nat), .int .u16 (r.chg.slot : Nat), .bool r.chg.had, .bool r.chg.has, .slice m.cm.A1 r.chg.before.length m.cm.c1, .slice m.cm.A2 r.chg.after.length m.cm.c2, .slice m.A3 r.txns.length m.c3, .slice m.A4 r.pages.length m.c4, .int .u64 0, .int .u64 0, .slice none 0 0].toArray 36)
    go_wp2_with (first | (refine wpList_load_want rfl 32 (.tmp 6) _ _ rfl rfl ld ?_; clear ld) | fail)
    generalize World.alloc w2 _ = w3 at *
    obtain ⟨gq, hgq⟩ : ∃ g, w2.heap.size = g := ⟨_, rfl⟩
    rw [hgq] at hop hz3
    rw [hgq]
    have ch2 : Calls Try.prog 8 #[.int .i64 18, .slice (some ⟨gq, 0, none⟩) 1 1] w3 fun e w' => e = .returned (.bool (heavy8 18 [opR r])) ∧ Below w3.heap.size w3 w' := heavy8_any 18 (some ⟨gq, 0, none⟩) 1 [opR r] (gq + 1) w3 hop (by omega)
    have HB3 := Lib.hid hb3
    obtain ⟨hv, hhv⟩ : ∃ q, heavy8 18 [opR r] = q := ⟨_, rfl⟩
    rw [hhv] at ch2
    clear hop hz3 hgq hb3 hb2 hhv
    cases hv with
    | true =>
      refine ch2.mono ?_
      rintro e w4 ⟨rfl, hb4⟩
      go_wp2_with fail
      refine (kn_any w4).mono ?_
      rintro e w5 ⟨rfl, hb5⟩
      go_wp2
      go_ret
      exact ⟨rfl, FIN.out _ ((HB3.out.trans (hb4.mono HB3.out.size)).trans (hb5.mono (Nat.le_trans HB3.out.size hb4.size)))⟩
    | false =>
      refine ch2.mono ?_
      rintro e w4 ⟨rfl, hb4⟩
      have hb4 := HB3.out.trans (hb4.mono HB3.out.size)
      clear ch2
      go_wp2_with fail
      refine (kn_any w4).mono ?_
      rintro e w5 ⟨rfl, hb5⟩
      have hb5 := hb4.trans (hb5.mono hb4.size)
      have HB5 := Lib.hid hb5
      clear hb4 hb5
      obtain ⟨hs120, hl40⟩ := heavy8_no HHV.out
      obtain ⟨a, hmax, ha1, ha2⟩ := max8 sz hs120
      have crun := run8_any sz a hmax ha1 ha2 A c l w5 ((HL.out.below HB5.out).more8 HB5.out.size) hl40
      rw [HN.out] at crun
      have hok := ok8_play ha1 ha2 HL.out.good l.length (Nat.le_refl _) (by omega)
      rw [List.take_of_length_le (Nat.le_refl _)] at hok
      have HOK := Lib.hid hok
      have HHV2 : Hid (heavy8 sz l = false) := Lib.hid HHV.out
      clear hok hs120 hl40 hmax ha1 ha2
      go_wp2_with fail
      refine crun.mono ?_
      rintro e w6 ⟨gpl, gl, pd, rfl, hb6, hpl⟩
      clear crun
      obtain ⟨S, hS⟩ : ∃ s, playP (start8 a) l = s := ⟨_, rfl⟩
      rw [hS] at hpl HOK
      obtain ⟨L, D, rs⟩ := S
      obtain ⟨H, wb, wl, wes, wv, iv, hp⟩ := hpl
      have HOK : Hid (Ok8 L D rs l.length) := Lib.hid HOK.out
      dsimp only at hp
      have hb6 := HB5.out.trans (hb6.mono HB5.out.size)
      have c1 : w6.cell? ⟨gpl, 1, none⟩ = some (.pointer (some ⟨gl, 0, none⟩)) := hp.blk.cell 1
      obtain ⟨F, G, gl', sv, st, hpe, hLg, hH⟩ := hp.log
      injection hpe with hpe
      injection hpe with hpe
      injection hpe with hpe
      subst hpe
      obtain ⟨A7, c7, rfl, -, -⟩ := hLg.log.bytes
      have hfit := HOK.out.fit
      have hlen := hfit.len
      have hstr := hfit.strips
      have hbase := hfit.base
      have crm := Room_any hLg.log.blk (by show L.strips ≤ _; omega) hlen
      have HLG := Lib.hid hLg
      have HB6 := Lib.hid hb6
      have HLEN := Lib.hid hlen
      have HSTR := Lib.hid hstr
      have HBASE := Lib.hid hbase
      obtain ⟨n0, hn0⟩ : ∃ q, L.stream.length = q := ⟨_, rfl⟩
      obtain ⟨rm, hrm⟩ : ∃ q, L.strips * 127 - n0 = q := ⟨_, rfl⟩
      obtain ⟨en, hen⟩ : ∃ q, L.h.base + n0 = q := ⟨_, rfl⟩
      rw [hn0, hrm] at crm
      have HN0 := Lib.hid hn0
      have HRM := Lib.hid hrm
      have HEN := Lib.hid hen
      have LO : Hid (∀ b, F b ∨ G b → w1.heap.size ≤ b) := Lib.hid fun b q => Nat.le_trans HB5.out.size (hp.lo b (hH b q))
      clear hp hH hLg hb6 hfit hlen hstr hbase hS hn0 hrm hen HHV HL
      go_wp2_with fail
      refine crm.mono ?_
      rintro e w7 ⟨rfl, hd7⟩
      have hB7 := hd7.below w6.heap.size
      have hL7 := HLG.out.below hB7
      have cen := end_any hL7.log.blk (by have := HBASE.out; omega)
      rw [HN0.out, HEN.out] at cen
      clear crm c1
      go_wp2_with fail
      refine cen.mono ?_
      rintro e w8 ⟨rfl, hd8⟩
      have hB8 := (hB7.trans ((hd8.below w7.heap.size).mono hB7.size))
      have hL8 := HLG.out.below hB8
      have hb8 := HB6.out.trans (hB8.mono HB6.out.size)
      have ld := LDR.out w8 hb8
      have cap : Calls Try.prog 13 #[.pointer (some ⟨gl, 0, none⟩), .agg #[.int .u8 (r.kind : Nat), .int .u32 (r.txn : Nat), .int .u64 (r.prev : Nat), .int .u64 (r.next : Nat), .int .u32 (r.chg.page : Nat), .int .u16 (r.chg.slot : Nat), .bool r.chg.had, .bool r.chg.has, .slice m.cm.A1 r.chg.before.length m.cm.c1, .slice m.cm.A2 r.chg.after.length m.cm.c2, .slice m.A3 r.txns.length m.c3, .slice m.A4 r.pages.length m.c4], .int .u64 (sp : Nat)] w8 fun e w' => e = .returned (.tuple #[.int .u64 ((appP L r sp).1.1 : Nat), .int .u16 ((appP L r sp).1.2 : Nat)]) ∧ LgPost (appP L r sp).2 D F G gl pd w8 w' :=
        append_any hL8 r m w8.heap.size ((HR.out.below hb8).more hb8.size) (Nat.le_refl _) (by have := HSTR.out; omega) HLEN.out HBASE.out HOK.out.fit.ok.cnt sp hspn
      have PST : Hid (∀ L' W, LgPost L' D F G gl pd w8 W → L'.strips = L.strips → L'.h = L.h → L'.stream.length ≤ L.strips * 127 → L.h.base + L'.stream.length < 18446744073709551616 →
          Below w1.heap.size w1 W ∧ ∃ A9 n9 c9 st9, L'.stream.length = n9 ∧ Blk W gl 75 (logV L'.h pd L'.strips L'.slot (.slice A9 n9 c9) st9 L'.lasts)) := Lib.hid fun L' W hp e1 e2 e3 e4 => by
        obtain ⟨F9, G9, sv9, st9, hL9, -, -, hO9⟩ := hp
        obtain ⟨A9, c9, rfl, -, -⟩ := hL9.log.bytes
        exact ⟨hb8.trans (hO9.below hb8.size LO.out), A9, _, c9, st9, rfl, hL9.log.blk⟩
      have RMS : Hid (∀ L' W, LgPost L' D F G gl pd w8 W → L'.strips = L.strips → L'.h = L.h → ∀ n', L'.stream.length = n' → n' ≤ L.strips * 127 → L.h.base + n' < 18446744073709551616 → ∀ W', Drew W W' →
          Calls Try.prog 11 #[.pointer (some ⟨gl, 0, none⟩)] W' (fun e w' => e = .returned (.int .u64 ((L.strips * 127 - n' : Nat) : Int)) ∧ Drew W' w') ∧
          Calls Try.prog 12 #[.pointer (some ⟨gl, 0, none⟩)] W' (fun e w' => e = .returned (.int .u64 ((L.h.base + n' : Nat) : Int)) ∧ Drew W' w')) := Lib.hid fun L' W hp e1 e2 n' e3 e4 e5 W' hd => by
        obtain ⟨-, A9, n9, c9, st9, e6, hk⟩ := PST.out L' W hp e1 e2 (by omega) (by omega)
        have hk := hk.below (hd.below W.heap.size) hk.lt
        have en : n9 = n' := by omega
        subst en
        have h1 := Room_any hk (by rw [e1]; have := HSTR.out; omega) (by rw [e1]; exact e4)
        have h2 := end_any hk (by rw [e2]; exact e5)
        rw [e1] at h1
        rw [e2] at h2
        exact ⟨h1, h2⟩
      have FIN2 : Hid (∀ W, Below w1.heap.size w1 W → ∀ W', Drew W W' → Below w.heap.size w W') := Lib.hid fun W q W' hd => FIN.out _ (q.trans ((hd.below W.heap.size).mono q.size))
      clear cen hB7 hB8 hL7 hL8 hd7 hd8 FIN LDR
      rcases app_plain (L := L) (r := r) (spare := sp) with ⟨q1, q2, q3⟩ | ⟨q1, q2, q3, q4, q5⟩
      · rw [q2, q3] at cap
        obtain ⟨cd, hcd⟩ : ∃ q, (appP L r sp).1.2 = q := ⟨_, rfl⟩
        rw [hcd] at cap q1
        have t1 : ((cd : Int) != 0) = true := by rw [bne_iff_ne]; omega
        have t2 : ((cd : Int) == 0) = false := by rw [beq_eq_false_iff_ne]; omega
        have t3 : ¬ (cd : Int) = 0 := by omega
        clear q1 q2 q3 hcd
        go_wp2_with (first | (refine wpList_load_run rfl 32 (.tmp 6) _ _ rfl rfl ld ?_; clear ld) | fail)
        refine cap.mono ?_
        rintro e w9 ⟨rfl, hp9⟩
        have HPB := (PST.out L w9 hp9 rfl rfl HLEN.out HBASE.out).1
        have R9 := RMS.out L w9 hp9 rfl rfl n0 HN0.out (by rw [← HN0.out]; exact HLEN.out) (by rw [← HN0.out]; exact HBASE.out)
        rw [HRM.out, HEN.out] at R9
        have HR9 := Lib.hid R9
        have HPB := Lib.hid (FIN2.out w9 HPB)
        clear cap hp9 PST RMS FIN2 R9
        have cr := (HR9.out w9 (Drew.refl _)).1
        go_wp2_with fail
        refine cr.mono ?_
        rintro e w10 ⟨rfl, hd10⟩
        have ce := (HR9.out w10 hd10).2
        clear cr
        go_wp2_with fail
        refine ce.mono ?_
        rintro e w11 ⟨rfl, hd11⟩
        have HF := Lib.hid (HPB.out w11 (hd10.trans hd11))
        clear ce
        go_wp2
        go_ret
        exact ⟨rfl, HF.out⟩
      · have hk0 := encL_pos8 r
        obtain ⟨k, hk⟩ : ∃ q, (encL r).length = q := ⟨_, rfl⟩
        obtain ⟨n1, hn1⟩ : ∃ q, n0 + k = q := ⟨_, rfl⟩
        obtain ⟨rm2, hrm2⟩ : ∃ q, L.strips * 127 - n1 = q := ⟨_, rfl⟩
        obtain ⟨en2, hen2⟩ : ∃ q, L.h.base + n1 = q := ⟨_, rfl⟩
        rw [hk] at hk0
        have z1 := HN0.out
        have z2 := HRM.out
        have z3 := HEN.out
        have hL' : (appP L r sp).2.stream.length = n1 := by
          rw [q5]
          show (L.stream ++ encL r).length = n1
          rw [List.length_append]
          omega
        have hS' : (appP L r sp).2.strips = L.strips := by rw [q5]
        have hH' : (appP L r sp).2.h = L.h := by rw [q5]
        have hqq : L.strips * 127 - sp ≥ n1 := by omega
        have hbb : L.h.base + n1 < 18446744073709551616 := by
          have := HOK.out.base
          have := HSTR.out
          have := HBASE.out
          have hl40 := (heavy8_no HHV2.out).2
          omega
        rw [q1, q2] at cap
        have cap' : Calls Try.prog 13 #[.pointer (some ⟨gl, 0, none⟩), .agg #[.int .u8 (r.kind : Nat), .int .u32 (r.txn : Nat), .int .u64 (r.prev : Nat), .int .u64 (r.next : Nat), .int .u32 (r.chg.page : Nat), .int .u16 (r.chg.slot : Nat), .bool r.chg.had, .bool r.chg.has, .slice m.cm.A1 r.chg.before.length m.cm.c1, .slice m.cm.A2 r.chg.after.length m.cm.c2, .slice m.A3 r.txns.length m.c3, .slice m.A4 r.pages.length m.c4], .int .u64 (sp : Nat)] w8 fun e w' => e = .returned (.tuple #[.int .u64 (en : Nat), .int .u16 0]) ∧ LgPost (appP L r sp).2 D F G gl pd w8 w' := by
          have := cap
          rw [z1, z3] at this
          exact this
        have g1 : sp ≤ rm2 := by omega
        have g2 : rm2 < rm := by omega
        have t1 : decide ((sp : Int) ≤ (rm2 : Int)) = true := by rw [decide_eq_true_iff]; omega
        have t2 : decide ((rm2 : Int) < (rm : Int)) = true := by rw [decide_eq_true_iff]; omega
        have v1 : IntKind.u64.wrap ((en2 : Int) - (en : Int)) = (k : Int) := by rw [IntKind.wrap_u64]; omega
        have v2 : IntKind.u64.wrap ((rm : Int) - (rm2 : Int)) = (k : Int) := by rw [IntKind.wrap_u64]; omega
        generalize (appP L r sp).2 = L' at *
        have HL' := Lib.hid hL'
        have HQ : Hid (n1 ≤ L.strips * 127) := Lib.hid (by omega)
        have HS' := Lib.hid hS'
        have HH' := Lib.hid hH'
        have HBB := Lib.hid hbb
        have HR2 := Lib.hid hrm2
        have HE2 := Lib.hid hen2
        have V1 := Lib.hid v1
        have V2 := Lib.hid v2
        clear hL' hS' hH' hqq hbb q1 q2 q3 q4 q5 cap hrm2 hen2 hk hn1 z1 z2 z3 hk0 v1 v2
        go_wp2_with (first | (refine wpList_load_run rfl 32 (.tmp 6) _ _ rfl rfl ld ?_; clear ld) | fail)
        refine cap'.mono ?_
        rintro e w9 ⟨rfl, hp9⟩
        have HPB := (PST.out L' w9 hp9 HS'.out HH'.out (by rw [HL'.out]; exact HQ.out) (by rw [HL'.out]; exact HBB.out)).1
        have R9 := RMS.out L' w9 hp9 HS'.out HH'.out n1 HL'.out HQ.out HBB.out
        rw [HR2.out, HE2.out] at R9
        have HR9 := Lib.hid R9
        have HPB := Lib.hid (FIN2.out w9 HPB)
        clear cap' hp9 PST RMS FIN2 R9
        have cr := (HR9.out w9 (Drew.refl _)).1
        go_wp2_with fail
        refine cr.mono ?_
        rintro e w10 ⟨rfl, hd10⟩
        have cr := (HR9.out w10 hd10).1
        go_wp2_with fail
        refine cr.mono ?_
        rintro e w11 ⟨rfl, hd11⟩
        have hd11 := hd10.trans hd11
        have ce := (HR9.out w11 hd11).2
        clear hd10 cr
        go_wp2_with fail
        refine ce.mono ?_
        rintro e w12 ⟨rfl, hd12⟩
        have hd12 := hd11.trans hd12
        have cr := (HR9.out w12 hd12).1
        clear hd11 ce
        have v1 := V1.out
        go_wp2_with fail
        refine cr.mono ?_
        rintro e w13 ⟨rfl, hd13⟩
        have HF := Lib.hid (HPB.out w13 (hd12.trans hd13))
        have v2 := V2.out
        clear cr hd12 hd13
        go_wp2
        go_ret
        exact ⟨rfl, HF.out⟩
end Go.Proofs.Ytkganajbilnanaa
