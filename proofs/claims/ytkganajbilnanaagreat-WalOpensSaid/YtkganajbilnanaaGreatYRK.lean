/- append(s, make([]byte, m)...) onto a row of bytes of the call's own. Conditions: as stated. -/
import Derived.Lib.AppendStr
import Derived.Test.YtkganajbilnanaaGreatYRL
import Derived.Test.YtkganajbilnanaaGreatYRSync
set_option linter.unusedVariables false
set_option linter.unusedSimpArgs false
namespace Go.Proofs.YtkganajbilnanaaGreat
open Go.ChangeShapes Go.WideShapes Go.ChangeAt Go.RowKit
open NumMath
theorem zeroCells_one (m : Nat) : Builtin.zeroCells (Value.int .u8 0).cells m = (List.replicate m (Value.int .u8 0)).toArray := by
  have h : (Value.int .u8 0).cells = #[.int .u8 0] := rfl
  rw [h]
  apply Array.ext'
  simp [Builtin.zeroCells]
  apply List.ext_getElem
  · simp
  · intro i h1 h2
    simp [Nat.mod_one]
def nulS (m : Nat) : ByteArray := ⟨(List.replicate m 0).toArray⟩
theorem nulS_size (m : Nat) : (nulS m).size = m := by simp [nulS, ByteArray.size]
theorem nulS_cells (m : Nat) : ((nulS m).extract 0 m).data.map (fun b => Value.int .u8 b.toNat) = (List.replicate m (Value.int .u8 0)).toArray := by
  have : (nulS m).extract 0 m = nulS m := by
    apply ByteArray.ext
    apply Array.ext'
    simp [nulS]
  rw [this]
  simp [nulS]
theorem zeros_as_string {P : Program} (w : World) (t u us ty e : TypeId) (i : TypeInfo) (ht : P.underlying t = some (.slice e)) (hu : P.underlying u = some (.int .i64)) (hus : P.underlying us = some .string) (hi : P.info? e = some i) (hz : i.zero = some (.int .u8 0)) (hsize : i.size = 1) (hby : i.bytes = 1)
    (b : Option Addr) (n c m : Nat) (hm : 0 < m) (hn : n + m ≤ 1000000) (hb : b = none → n = 0) :
    (Builtin.append_ #[t, u] ty #[.slice b n c, .int .i64 (m : Nat)]).run P w = (Builtin.append_ #[t, us] ty #[.slice b n c, .string (nulS m)]).run P w := by
  have h1 : IntKind.i64.wrap (m : Int) = (m : Int) := by rw [IntKind.wrap_i64]; omega
  have h2 : ¬ (m : Int) < 0 := by omega
  have h3 : ¬ (281474976710656 < (m : Int)) := by omega
  have h4 : ¬ (9223372036854775807 < ((n : Int) + (m : Int))) := by omega
  have h0 : ¬ m = 0 := by omega
  have e1 := zeroCells_one m
  have e2 := nulS_cells m
  have e3 := nulS_size m
  have e4 : List.take m (List.map (fun b => Value.int .u8 (b.toNat : Int)) (nulS m).data.toList) = List.replicate m (Value.int .u8 0) := by simp [nulS]
  have e5 : (Array.map (fun b : UInt8 => Value.int .u8 (b.toNat : Int)) (nulS m).data).extract 0 m = Array.replicate m (Value.int .u8 0) := by apply Array.ext'; simp [nulS]
  by_cases hr : n + m ≤ c
  · cases b with
    | none =>
      simp [Builtin.append_, run_underlying ht, run_underlying hu, run_underlying hus, sizeOf, typeInfo, zeroValue, hi, hz, hsize, hby, Builtin.lenOf, asInt, asIntOf, h1, h2, h3, h4, h0, hr, e1, e2, e3, e4, e5, Builtin.firstCells]
    | some a =>
      simp [Builtin.append_, run_underlying ht, run_underlying hu, run_underlying hus, sizeOf, typeInfo, zeroValue, hi, hz, hsize, hby, Builtin.lenOf, asInt, asIntOf, h1, h2, h3, h4, h0, hr, e1, e2, e3, e4, e5, Builtin.firstCells]
  · have h5 : Builtin.nextslicecap (n + m) c ≤ 281474976710656 := Nat.le_trans (nextslicecap_le (by omega)) (by omega)
    have h6 : ¬ (281474976710656 < Builtin.nextslicecap (n + m) c) := by omega
    cases b <;> simp [Builtin.append_, run_underlying ht, run_underlying hu, run_underlying hus, sizeOf, typeInfo, zeroValue, hi, hz, hsize, hby, Builtin.lenOf, asInt, asIntOf, h1, h2, h3, h4, h6, h0, hr, e1, e2, e3, e4, e5, Builtin.firstCells, Question.forced]
theorem wpList_append_zeros_rb {w : World} {ops : Array Oper} {rest : List Oper} {o : Oper} {a : Act} {Q : Exit → Act → World → Prop} (hgd : o.guard = none) (s x : Operand)
    (ho : o.op = .call { callee := .builtin .append, args := #[s, x], argTypes := #[45, 3] })
    {w0 : World} {A : Option Addr} {n c : Nat} {l : List Nat} (h : RB w0 w A n c l) (hs : a.eval s = .slice A n c) (m : Nat) (hm : 0 < m) (hx : a.eval x = .int .i64 (m : Nat)) (hn : n + m ≤ 1000000)
    (k : ∀ A' c' w', RB w0 w' A' (n + m) c' (l ++ List.replicate m 0) → wpList Tryz.prog ops Q rest (a.put o.dst (.slice A' (n + m) c')) w') : wpList Tryz.prog ops Q (o :: rest) a w := by
  obtain ⟨i0, hi0, hz0, hz1, hz2⟩ := info_parts u8_info
  obtain ⟨v', w', hr, h2, h3, -⟩ := Lib.run_append_own_string (P := Tryz.prog) w w0.heap.size 45 9 o.type 5 i0 Tryz.underlying45 Tryz.underlying9 hi0 hz0 hz1 hz2 _ n (l.map byteV) h.1 (nulS m) (by rw [nulS_size]; unfold maxLen; omega) (by rw [nulS_size]; omega) h.2.1.size
  rw [← zeros_as_string w 45 3 9 o.type 5 i0 Tryz.underlying45 Tryz.underlying3 Tryz.underlying9 hi0 hz0 hz1 hz2 A n c m hm (by omega) (fun e => by
    have := h.1.2
    rcases this with ⟨z1, z2⟩ | ⟨g, _, _, z, _⟩
    · exact z2
    · rw [e] at z; cases z)] at hr
  rw [nulS_size] at h2
  obtain ⟨A', c', rfl, -, -⟩ := own_form h2
  have hc : Lib.strCells (nulS m) = (List.replicate m 0).map byteV := by
    simp [Lib.strCells, nulS, byteV]
  rw [hc, ← List.map_append] at h2
  have hrb : RB w0 w' A' (n + m) c' (l ++ List.replicate m 0) := ⟨h2, below_own h.2.1 h3 h.1 (Nat.le_refl _) h.2.1.size, small_append h.2.2.1 (replicate_small m), by rw [List.length_append, h.2.2.2, List.length_replicate]⟩
  refine wpList_plain hgd fun K hK => ?_
  unfold Oper.wp execOp
  simp only [ho, resolve, invoke, builtin, Sem.run_bind, Sem.run_pure, Result.andThen_ok, List.map_toArray, List.map_cons, List.map_nil, hs, hx, hr]
  exact hK _ _ (k A' c' w' hrb)
end Go.Proofs.YtkganajbilnanaaGreat
namespace Go.Proofs.YtkganajbilnanaaGreat
open Go.ChangeShapes Go.WideShapes Go.ChangeAt Go.RowKit
open NumMath
set_option maxRecDepth 20000
theorem rputn8 (n : Nat) (w : World) (h1 : n < 18446744073709551616) : Calls Tryz.prog 123 #[.int .u64 n, .int .i64 8] w fun e w' => ∃ A c, e = .returned (.slice A 8 c) ∧ RB w w' A 8 c (putF 8 n) := by
  have h := refput_any n 8 w h1 (by omega) (by omega)
  have e : putB n 8 = putF 8 n := by unfold putB; rw [if_pos ⟨by omega, by omega⟩]; simp
  rw [e] at h
  refine h.mono ?_
  rintro e w' ⟨A, c, he, ho, hb, hs⟩
  rw [putF_length] at he ho
  exact ⟨A, c, he, ho, hb, hs, putF_length _ _⟩
set_option maxHeartbeats 8000000 in
theorem rhead_any {L : LogP} {D : DevP} {w : World} {F G : Nat → Prop} {gl : Nat} {pd sv st : Value} (h : RLg L D w F G gl pd sv st) (hf : L.h.Fits) (hsl : L.slot ≤ 1) {N : Nat} (hG : D.good N) (hN : N + 1 ≤ 100000) :
    Calls Tryz.prog 104 #[.pointer (some ⟨gl, 0, none⟩)] w fun e w' => e = .returned (.tuple #[]) ∧ RLgPost (sayL L) (sayD L D) F G gl pd w w' := by
  obtain ⟨⟨stamp, base, check, area⟩, strips, slot, stream, starts, lasts⟩ := L
  obtain ⟨gp, s0, lv0, X0, rfl, -⟩ := id h.dev
  obtain ⟨f0, f1, f2, f3⟩ := hf
  simp only at hsl f0 f1 f2 f3
  obtain ⟨st', hst⟩ : ∃ x, (stamp + 1) % 18446744073709551616 = x := ⟨_, rfl⟩
  obtain ⟨sl', hsl'⟩ : ∃ x, 1 - slot = x := ⟨_, rfl⟩
  have V1 : Hid (IntKind.u64.wrap ((stamp : Int) + 1) = (st' : Int)) := Lib.hid (by rw [IntKind.wrap_u64]; omega)
  have V2 : Hid (IntKind.i64.wrap (1 - (slot : Int)) = (sl' : Int)) := Lib.hid (by rw [IntKind.wrap_i64]; omega)
  have V3 : Hid (IntKind.u8.wrap (area : Int) = (area : Int)) := Lib.hid (by rw [IntKind.wrap_u8]; omega)
  have V4 : Hid ((area : Int) % 256 = (area : Int)) := Lib.hid (by omega)
  have st64 : st' < 18446744073709551616 := by omega
  have hfit : HeadP.Fits ⟨st', base, check, area⟩ := ⟨st64, f1, f2, f3⟩
  have kb := h.log.blk
  have c0 : w.cell? ⟨gl, 8, none⟩ = some (.int .u64 (stamp : Nat)) := kb.cell 8
  have c6 : w.cell? ⟨gl, 9, none⟩ = some (.int .i64 (slot : Nat)) := kb.cell 9
  have z0 : w.frozen? ⟨gl, 8, none⟩ = false := kb.frozen 8
  have z6 : w.frozen? ⟨gl, 9, none⟩ = false := kb.frozen 9
  have kW : Blk ((w.setCell ⟨gl, 8, none⟩ (.int .u64 (st' : Nat))).setCell ⟨gl, 9, none⟩ (.int .i64 (sl' : Nat))) gl 98 (rlogV ⟨st', base, check, area⟩ (.pointer (some ⟨gp, 0, none⟩)) strips sl' sv st lasts) := (kb.set_ 8 _).set_ 9 _
  have oW : Only (fun b => b = gl) w ((w.setCell ⟨gl, 8, none⟩ (.int .u64 (st' : Nat))).setCell ⟨gl, 9, none⟩ (.int .i64 (sl' : Nat))) := ((Only.refl (fun b => b = gl) w).setCell (p := ⟨gl, 8, none⟩) (.inl rfl) _).setCell (p := ⟨gl, 9, none⟩) (.inl rfl) _
  have hL : sayL ⟨⟨stamp, base, check, area⟩, strips, slot, stream, starts, lasts⟩ = ⟨⟨st', base, check, area⟩, strips, sl', stream, starts, lasts⟩ := by unfold sayL; simp only [hst, hsl']
  have hD : sayD ⟨⟨stamp, base, check, area⟩, strips, slot, stream, starts, lasts⟩ D = ((D.write 0 (sl' : Int) (hsec ⟨st', base, check, area⟩)).2).sync 0 := by unfold sayD; rw [hL]
  have hLW := h.box (L' := ⟨⟨st', base, check, area⟩, strips, sl', stream, starts, lasts⟩) oW kW rfl rfl
  have hgG : G gl := h.log.inG
  have hoG : Only (fun b => F b ∨ G b) w _ := oW.mono (S' := fun b => F b ∨ G b) fun b e => .inl (.inr (by rw [e]; exact hgG))
  rw [hL, hD]
  have HS := Lib.hid (hsec_small hfit)
  have HL := Lib.hid (hsec_length ⟨st', base, check, area⟩)
  have HE : Hid (hsec ⟨st', base, check, area⟩ = (((((putF 8 st' ++ [area]) ++ putF 8 base) ++ putF 8 check) ++ List.replicate 95 0) ++ putF 8 st')) := Lib.hid rfl
  generalize hsec ⟨st', base, check, area⟩ = lh at *
  have HLW := Lib.hid hLW
  have HKW := Lib.hid kW
  have HOG := Lib.hid hoG
  clear hL hD hLW h kb kW oW hst hsl' hsl f0 hoG hfit
  have v1 := V1.out
  have v2 := V2.out
  go_enter Tryz.func104, Tryz.ntmps104
  go_upto_region 2 with fail
  clear v1 v2 c0 c6 z0 z6
  generalize World.setCell _ _ _ = W at *
  have hg : gl < W.heap.size := HKW.out.lt
  have hFW : ∀ b, F b → b < W.heap.size := HLW.out.hiF
  have nF : ¬ F gl := fun q => HLW.out.dis gl q hgG
  have CELLS : Hid (∀ W', Only F W W' → W'.cell? ⟨gl, 8, none⟩ = some (.int .u64 (st' : Nat)) ∧ W'.cell? ⟨gl, 3, none⟩ = some (.int .u64 (base : Nat)) ∧ W'.cell? ⟨gl, 7, none⟩ = some (.int .u64 (check : Nat)) ∧ W'.cell? ⟨gl, 2, none⟩ = some (.int .i64 (area : Nat)) ∧ W'.cell? ⟨gl, 0, none⟩ = some (.pointer (some ⟨gp, 0, none⟩)) ∧ W'.cell? ⟨gl, 9, none⟩ = some (.int .i64 (sl' : Nat))) := Lib.hid fun W' ho => by
    have k := HKW.out.only ho nF
    exact ⟨k.cell 8, k.cell 3, k.cell 7, k.cell 2, k.cell 0, k.cell 9⟩
  obtain ⟨y8, -⟩ := CELLS.out W (Only.refl _ _)
  go_wp2_with fail
  refine (rputn8 st' W st64).mono ?_
  rintro e w2 ⟨A2, c2, rfl, r2⟩
  obtain ⟨-, -, -, y2, -⟩ := CELLS.out w2 (Only.of_below r2.2.1 F)
  clear y8
  have v3 := V3.out
  have v4 := V4.out
  go_upto_region 4 with (at_builtin; refine wpList_append_rb rfl _ _ 45 45 rfl Tryz.underlying45 Tryz.underlying45 (r2.alloc (.cells #[.int .u8 (area : Int)] 5)) rfl (w2.heap.size + 1) (some ⟨w2.heap.size, 0, none⟩) 1 1 [area] rfl (one_bytes w2 f3) rfl (by omega) ?_; intro A3 c3 w3 r3; clear r2)
  clear v3 v4 y2
  obtain ⟨-, y3, -⟩ := CELLS.out w3 (Only.of_below r3.2.1 F)
  go_wp2_with fail
  refine (rputn8 base w3 f1).mono ?_
  rintro e w4 ⟨A4, c4, rfl, q4⟩
  have r4 := r3.keep q4.2.1
  have x4 := q4.bytes
  clear r3 q4 y3
  go_upto_region 5 with (at_builtin; refine wpList_append_rb rfl _ _ 45 45 rfl Tryz.underlying45 Tryz.underlying45 r4 rfl w4.heap.size A4 8 c4 (putF 8 base) rfl x4 (putF_length _ _) (by omega) ?_; intro A5 c5 w5 r5; clear r4 x4)
  obtain ⟨-, -, y5, -⟩ := CELLS.out w5 (Only.of_below r5.2.1 F)
  go_wp2_with fail
  refine (rputn8 check w5 f2).mono ?_
  rintro e w6 ⟨A6, c6, rfl, q6⟩
  have r6 := r5.keep q6.2.1
  have x6 := q6.bytes
  clear r5 q6 y5
  go_upto_region 6 with (at_builtin; refine wpList_append_rb rfl _ _ 45 45 rfl Tryz.underlying45 Tryz.underlying45 r6 rfl w6.heap.size A6 8 c6 (putF 8 check) rfl x6 (putF_length _ _) (by omega) ?_; intro A7 c7 w7 r7; clear r6 x6)
  go_upto_region 7 with (at_builtin; refine wpList_append_zeros_rb rfl _ _ rfl r7 rfl 95 (by omega) rfl (by omega) ?_; intro A8 c8 w8 r8; clear r7)
  obtain ⟨y8, -⟩ := CELLS.out w8 (Only.of_below r8.2.1 F)
  go_wp2_with fail
  refine (rputn8 st' w8 st64).mono ?_
  rintro e w9 ⟨A9, c9, rfl, q9⟩
  have r9 := r8.keep q9.2.1
  have x9 := q9.bytes
  clear r8 q9 y8
  go_upto_region 8 with (at_builtin; refine wpList_append_rb rfl _ _ 45 45 rfl Tryz.underlying45 Tryz.underlying45 r9 rfl w9.heap.size A9 8 c9 (putF 8 st') rfl x9 (putF_length _ _) (by omega) ?_; intro A10 c10 w10 r10; clear r9 x9)
  rw [← HE.out] at r10
  have hB10 := Lib.hid r10.2.1
  have bd := below_drew0 w10
  have x1 := (CELLS.out w10.drew (Only.of_below (hB10.out.trans (bd.mono hB10.out.size)) F)).2.2.2.2
  have cw : Calls Tryz.prog 88 #[.pointer (some ⟨gp, 0, none⟩), .int .u8 0, .int .i64 (sl' : Int), .slice A10 128 c10] w10.drew fun e w' => e = .returned (.int .i64 ((D.write 0 (sl' : Int) lh).1 : Nat)) ∧ RPost (D.write 0 (sl' : Int) lh).2 F (.pointer (some ⟨gp, 0, none⟩)) w10.drew w' := by
    have hb : Below W.heap.size W w10.drew := hB10.out.trans (bd.mono hB10.out.size)
    have ho := kept_none (below_none bd) r10.1
    have hl := HL.out
    have := rwrite_any (HLW.out.dev.below hb) (fun b q => Nat.lt_of_lt_of_le (hFW b q) hb.size) hG (by omega) 0 (by omega) (sl' : Int) A10 c10 lh (out_own ho HS.out hFW)
    rw [hl] at this
    exact this
  have HG2 : Hid ((D.write 0 (sl' : Int) lh).2.good (N + 1)) := Lib.hid (hG.write 0 _ _)
  clear hG r10 f1 f2 f3 st64
  go_cut [] (fun wx => RPost (D.write 0 (sl' : Int) lh).2 F (.pointer (some ⟨gp, 0, none⟩)) w10.drew wx)
  case first =>
    go_wp2_with fail
    go_region_held3 (fun W' => W'.cell? ⟨gl, 0, none⟩ = some (.pointer (some ⟨gp, 0, none⟩)) ∧ W'.cell? ⟨gl, 9, none⟩ = some (.int .i64 (sl' : Nat)))
      (first | with_reducible (exact x1) | with_reducible (exact x2) | fail)
      (first
        | ((with_reducible refine cw.mono ?_); rintro e w4 ⟨rfl, hp4⟩; have x2 := (CELLS.out w4 ((Only.of_below (hB10.out.trans (bd.mono hB10.out.size)) F).trans hp4.2 fun b q => .inl q)).2.2.2.2; have H4 := Lib.hid hp4)
        | fail)
    all_goals
      go_wp2
      go_meet
      case rel => exact H4.out
  case rest =>
    rename World => wx
    have hp := hcut
    have hb3 := hB10.out.trans (bd.mono hB10.out.size)
    have hL3 := (HLW.out.below hb3).devPost hp
    have c4 : wx.cell? ⟨gl, 0, none⟩ = some (.pointer (some ⟨gp, 0, none⟩)) := hL3.log.blk.cell 0
    have hsy := rsync_any hL3.dev hL3.hiF HG2.out (by omega) 0 (by omega)
    have FIN : Hid (∀ W', RPost (((D.write 0 (sl' : Int) lh).2).sync 0) (grow F w10.drew wx) (.pointer (some ⟨gp, 0, none⟩)) wx W' → RLgPost ⟨⟨st', base, check, area⟩, strips, sl', stream, starts, lasts⟩ (((D.write 0 (sl' : Int) lh).2).sync 0) F G gl (.pointer (some ⟨gp, 0, none⟩)) w W') := Lib.hid fun W' hq => by
      refine RLgPost.trans (F' := F) (G' := G) (fun b q => .inl q) (fun b q => .inl q) HOG.out ?_
      refine RLgPost.lead hb3 ?_
      refine RLgPost.trans (F' := grow F w10.drew wx) (G' := G) (fun b q => q) (fun b q => .inl q) (hp.2.mono fun b q => .inl (.inl q)) ?_
      exact RLgPost.dev hL3 hq
    clear hL3 hp hb3 x1 bd cw hFW
    go_wp2_with fail
    refine hsy.mono ?_
    rintro e w5 ⟨rfl, hq⟩
    have H := Lib.hid (FIN.out w5 hq)
    clear hq FIN hsy
    go_wp2
    go_end0
    exact ⟨rfl, H.out⟩
set_option maxHeartbeats 8000000 in
theorem rlay_any {D : DevP} {w : World} {F : Nat → Prop} {pd : Value} (h : IsRDev D w F pd) (hF : ∀ b, F b → b < w.heap.size) {N : Nat} (hG : D.good N) {gl : Nat} {lh : HeadP} {strips slot lasts : Nat} {sv st : Value}
    (kb : Blk w gl 98 (rlogV lh pd strips slot sv st lasts)) (hgl : ¬ F gl) (p n : Nat) (hp : p ≤ 100000) (hn : n ≤ 100000) (hN : N + n ≤ 100000) (A : Option Addr) (c : Nat) (Lw : List Value) (want : List (List Nat)) (hA : AtIn w (fun b => ¬ F b) A Lw) (hw : Outs w F Lw want) (hwl : want.length ≤ 100000) (h128 : ∀ l ∈ want, l.length = 128) :
    Calls Tryz.prog 37 #[.pointer (some ⟨gl, 0, none⟩), .int .i64 (p : Nat), .int .i64 (n : Nat), .slice A want.length c] w fun e w' => e = .returned (.tuple #[]) ∧ RPost (makeP D p n want) F pd w w' := by
  obtain ⟨i0, hi0, hz0, hz1, hz2⟩ := info_parts u8_info
  obtain ⟨gp, s0, lv0, X0, rfl, -⟩ := id h
  obtain ⟨wl, hwn⟩ : ∃ wl, want.length = wl := ⟨_, rfl⟩
  have HWL := Lib.hid hwn
  rw [hwn]
  have hgl1 := kb.lt
  have HA := Lib.hid hA
  have HW := Lib.hid hw
  have H128 := Lib.hid h128
  have HF1 := Lib.hid hF
  have KB := Lib.hid kb
  have hd1 := h
  clear h hA hw hF hwn h128 kb
  go_enter Tryz.func37, Tryz.ntmps37
  go_wp2_with fail
  go_loopw [9, 8, 10, 11, 12] (fun iv bv _ _ _ wr => ∃ (k : Nat), k ≤ n ∧ iv = .int .i64 (k : Nat) ∧ bv = .bool (makeN D p want k).2 ∧ IsRDev (makeN D p want k).1 wr (grow F w wr) (.pointer (some ⟨gp, 0, none⟩)) ∧ Only F w wr) (fun iv _ _ _ _ _ => n - (intOf iv).toNat)
  case atStart => exact ⟨0, Nat.zero_le _, rfl, rfl, hd1.mono fun b q => .inl q, Only.refl _ _⟩
  case round =>
    clear hd1
    obtain ⟨k, hk, rfl, rfl, hd, hO⟩ := hrel
    have hFr : ∀ b, grow F w wr b → b < wr.heap.size := fun b q => q.elim (fun z => Nat.lt_of_lt_of_le (HF1.out b z) hO.size) fun z => z.2
    have hgood := makeN_good hG p want k
    have kr := KB.out.only hO hgl
    have hnx := makeN_next D p want k
    generalize hs : makeN D p want k = s at *
    obtain ⟨Dk, bk⟩ := s
    simp only at hd hgood hnx
    rcases Nat.lt_or_ge k n with hlt | hge
    · have e1 : decide ((k : Int) < (n : Int)) = true := by rw [decide_eq_true_iff]; omega
      obtain ⟨q, hq⟩ : ∃ q, p + k = q := ⟨_, rfl⟩
      have v1 : IntKind.i64.wrap ((p : Int) + (k : Int)) = (q : Int) := by rw [IntKind.wrap_i64]; omega
      rw [hq] at hnx
      have hwr := hO.size
      have FIN : Hid (∀ W w2, Below wr.heap.size wr w2 → RPost (Dk.write 0 (q : Int) (wantAt want k)).2 (grow F w wr) (.pointer (some ⟨gp, 0, none⟩)) w2 W → ¬ (Dk.read 0 (q : Int)).1 = wantAt want k → IsRDev (makeN D p want (k + 1)).1 W (grow F w W) (.pointer (some ⟨gp, 0, none⟩)) ∧ (makeN D p want (k + 1)).2 = true ∧ Only F w W) := Lib.hid fun W w2 hb2 hp hne => by
        rw [hnx, if_neg hne]
        have hw2 := hb2.size
        refine ⟨hp.1.mono fun b z => ?_, rfl, hO.trans ((Only.of_below hb2 (grow F w wr)).trans hp.2 fun b z => .inl z) fun b z => z.imp id fun y => y.1⟩
        rcases z with (z | z) | z
        · exact .inl z
        · exact .inr ⟨z.1, Nat.lt_of_lt_of_le z.2 (Nat.le_trans hw2 hp.2.size)⟩
        · exact .inr ⟨by omega, z.2⟩
      have FIN2 : Hid (∀ W, Below wr.heap.size wr W → (Dk.read 0 (q : Int)).1 = wantAt want k → IsRDev (makeN D p want (k + 1)).1 W (grow F w W) (.pointer (some ⟨gp, 0, none⟩)) ∧ (makeN D p want (k + 1)).2 = bk ∧ Only F w W) := Lib.hid fun W hW he => by
        rw [hnx, if_pos he]
        exact ⟨(hd.below hW).mono fun b z => z.imp id fun y => ⟨y.1, Nat.lt_of_lt_of_le y.2 hW.size⟩, rfl, hO.trans (Only.of_below hW (fun _ => False)) fun b z => z.elim⟩
      go_upto_region 5 with (at_make; refine wpList_make_full _ rfl _ _ 45 rfl wr.heap.size 5 i0 _ 1 Tryz.underlying45 hi0 hz0 hz1 .i64 .i64 _ _ 128 rfl rfl rfl rfl (by rw [hz2]; omega) (by unfold maxLen; omega) (Nat.le_refl _) ?_; intro wm hownm hgm)
      have hbm : Below wr.heap.size wr wm := (Below.refl _ _).grown hgm (Nat.le_refl _) (by simp)
      have hz : (madeCells (Value.int .u8 0).cells (128 * 1)).toList = zsec.map byteV := by
        unfold zsec
        rw [List.map_replicate]
        exact toList_madeCells_one _ 128
      rw [hz] at hownm
      have hbz : BytesIn wm (fun b => ¬ grow F w wr b) (some ⟨wr.heap.size, 0, none⟩) zsec := out_own hownm zsec_small hFr
      have hrd := rread_any (hd.below hbm) hgood (by omega) 0 (by omega) (q : Int)
      have km := kr.below hbm kr.lt
      have c4 : wm.cell? ⟨gl, 0, none⟩ = some (.pointer (some ⟨gp, 0, none⟩)) := km.cell 0
      obtain ⟨lr, hlr⟩ : ∃ lr, (Dk.read 0 (q : Int)).1 = lr := ⟨_, rfl⟩
      obtain ⟨nr, hnr⟩ : ∃ nr, (Dk.read 0 (q : Int)).2 = nr := ⟨_, rfl⟩
      rw [hlr] at hrd hnx FIN FIN2
      rw [hnr] at hrd
      clear hownm hgm hz hnr
      by_cases hkw : k < wl
      · have e2 : decide ((k : Int) < (wl : Int)) = true := by rw [decide_eq_true_iff]; omega
        have e3 : (0 : Int) ≤ (k : Int) := by omega
        have e4 : (k : Int) < (wl : Int) := by omega
        have hkl : k < want.length := by rw [HWL.out]; exact hkw
        obtain ⟨u, hu, hT⟩ := HW.out.2 k _ (List.getElem?_eq_getElem hkl)
        obtain ⟨Ab, cb, rfl, hcb, hTb0⟩ := hT.bytes
        obtain ⟨b, o, rfl, hFb, hbw, hc⟩ := HA.out k (by rw [HW.out.1]; exact hkl)
        have hLk : Lw[k]'(by rw [HW.out.1]; exact hkl) = .slice Ab want[k].length cb := by
          rw [List.getElem?_eq_getElem (by rw [HW.out.1]; exact hkl)] at hu
          exact Option.some.inj hu
        have hl128 : want[k].length = 128 := H128.out _ (List.getElem_mem hkl)
        have hlbw : want[k] = wantAt want k := by unfold wantAt; rw [List.getElem?_eq_getElem hkl]; rfl
        rw [hLk] at hc
        have hcr : wm.cell? ⟨b, o + k, none⟩ = some (.slice Ab want[k].length cb) := (hbm.cell (p := ⟨b, o + k, none⟩) (Nat.lt_of_lt_of_le hbw hO.size)).trans ((hO.cell (p := ⟨b, o + k, none⟩) hbw hFb).trans hc)
        have TXT : Hid (∀ W, Below wr.heap.size wr W → BytesIn W (fun b => ¬ grow F w wr b) Ab want[k]) := Lib.hid fun W hW => out_below (out_post hTb0 hO) hW
        generalize want[k] = lb at *
        rw [hl128] at hcr
        have HBM := Lib.hid hbm
        clear hLk hu hT hTb0 hc hcb hs hq hk hgl1 hkl hbz hbm km
        go_wp2_with fail
        refine hrd.mono ?_
        rintro e w2 ⟨A2, c2, rfl, ho2, hb2', hs2⟩
        have hb2 := HBM.out.trans (hb2'.mono HBM.out.size)
        clear hcr hb2' c4
        have hlb2 := TXT.out w2 hb2
        have s2 := hlb2.bytes
        have x2 := own_bytes ho2 hs2
        have r1 := run_bytes_str (P := Tryz.prog) (w := w2) x2 45 9 5 Tryz.underlying45 Tryz.underlying5 Tryz.underlying9 c2
        have r2 := run_bytes_str (P := Tryz.prog) (w := w2) s2 45 9 5 Tryz.underlying45 Tryz.underlying5 Tryz.underlying9 cb
        rw [hl128] at r2
        have hbn := strB_beq x2.2 s2.2
        have k2 := kr.below hb2 kr.lt
        have c4 : w2.cell? ⟨gl, 0, none⟩ = some (.pointer (some ⟨gp, 0, none⟩)) := k2.cell 0
        have hF2 : ∀ b, grow F w wr b → b < w2.heap.size := fun b z => Nat.lt_of_lt_of_le (hFr b z) hb2.size
        have hwt := rwrite_any (hd.below hb2) hF2 hgood (by omega) 0 (by omega) (q : Int) Ab cb lb hlb2
        rw [hl128] at hwt
        have F1 : Hid (∀ W, RPost (Dk.write 0 (q : Int) lb).2 (grow F w wr) (.pointer (some ⟨gp, 0, none⟩)) w2 W → ¬ lr = lb → IsRDev (makeN D p want (k + 1)).1 W (grow F w W) (.pointer (some ⟨gp, 0, none⟩)) ∧ (makeN D p want (k + 1)).2 = true ∧ Only F w W) := Lib.hid fun W hp hne => by
          rw [hlbw] at hp hne
          exact FIN.out W w2 hb2 hp hne
        have F2 : Hid (lr = lb → IsRDev (makeN D p want (k + 1)).1 w2 (grow F w w2) (.pointer (some ⟨gp, 0, none⟩)) ∧ (makeN D p want (k + 1)).2 = bk ∧ Only F w w2) := Lib.hid fun he => FIN2.out w2 hb2 (by rw [← hlbw]; exact he)
        clear hrd ho2 hs2 hlb2 TXT hd hO hFr hgood k2 kr hF2 hl128 hlbw FIN FIN2 hnx hlr hb2 x2 s2
        by_cases he : lr = lb
        · have hbn2 : ((strB lr).toList == (strB lb).toList) = true := by rw [hbn]; exact decide_eq_true he
          have hbn3 : ((strB lr).toList != (strB lb).toList) = false := by rw [bne, hbn2]; rfl
          have H := Lib.hid (F2.out he)
          clear F1 F2 he hwt hbn
          go_wp2
          go_roundw
          case rel => exact ⟨k + 1, by omega, by go_num, by rw [H.out.2.1], H.out.1, H.out.2.2⟩
          case measure => simp [intOf]; omega
        · have hbn2 : ((strB lr).toList == (strB lb).toList) = false := by rw [hbn]; exact decide_eq_false he
          have hbn3 : ((strB lr).toList != (strB lb).toList) = true := by rw [bne, hbn2]; rfl
          have H := Lib.hid fun W hp => F1.out W hp he
          clear F1 F2 he hbn
          go_wp2_with fail
          refine hwt.mono ?_
          rintro e w4 ⟨rfl, hp⟩
          have H4 := Lib.hid (H.out w4 hp)
          clear hp H hwt r1 r2
          go_wp2
          go_roundw
          case rel => exact ⟨k + 1, by omega, by go_num, by rw [H4.out.2.1], H4.out.1, H4.out.2.2⟩
          case measure => simp [intOf]; omega
      · have e2 : decide ((k : Int) < (wl : Int)) = false := by rw [decide_eq_false_iff_not]; omega
        have hl128 : zsec.length = 128 := zsec_length
        have hlbw : zsec = wantAt want k := by unfold wantAt; rw [List.getElem?_eq_none (by rw [HWL.out]; omega)]; rfl
        obtain ⟨Ab, hAb⟩ : ∃ Ab, some (⟨wr.heap.size, 0, none⟩ : Addr) = Ab := ⟨_, rfl⟩
        have TXT0 : Hid (∀ W, Below wm.heap.size wm W → BytesIn W (fun b => ¬ grow F w wr b) (some ⟨wr.heap.size, 0, none⟩) zsec) := Lib.hid fun W hW => out_below hbz hW
        generalize zsec = lb at *
        have HBM := Lib.hid hbm
        clear hs hq hk hgl1 hbz hbm km hAb
        go_wp2_with fail
        refine hrd.mono ?_
        rintro e w2 ⟨A2, c2, rfl, ho2, hb2', hs2⟩
        have TXT : Hid (∀ W, Below w2.heap.size w2 W ∨ W = w2 → BytesIn W (fun b => ¬ grow F w wr b) (some ⟨wr.heap.size, 0, none⟩) lb) := Lib.hid fun W hW => by
          rcases hW with hW | rfl
          · exact TXT0.out W (hb2'.trans (hW.mono hb2'.size))
          · exact TXT0.out _ hb2'
        have hb2 := HBM.out.trans (hb2'.mono HBM.out.size)
        clear hb2' c4 TXT0
        have hlb2 := TXT.out w2 (.inr rfl)
        have s2 := hlb2.bytes
        have x2 := own_bytes ho2 hs2
        have r1 := run_bytes_str (P := Tryz.prog) (w := w2) x2 45 9 5 Tryz.underlying45 Tryz.underlying5 Tryz.underlying9 c2
        have r2 := run_bytes_str (P := Tryz.prog) (w := w2) s2 45 9 5 Tryz.underlying45 Tryz.underlying5 Tryz.underlying9 128
        rw [hl128] at r2
        have hbn := strB_beq x2.2 s2.2
        have k2 := kr.below hb2 kr.lt
        have c4 : w2.cell? ⟨gl, 0, none⟩ = some (.pointer (some ⟨gp, 0, none⟩)) := k2.cell 0
        have hF2 : ∀ b, grow F w wr b → b < w2.heap.size := fun b z => Nat.lt_of_lt_of_le (hFr b z) hb2.size
        have hwt := rwrite_any (hd.below hb2) hF2 hgood (by omega) 0 (by omega) (q : Int) (some ⟨wr.heap.size, 0, none⟩) 128 lb hlb2
        rw [hl128] at hwt
        have F1 : Hid (∀ W, RPost (Dk.write 0 (q : Int) lb).2 (grow F w wr) (.pointer (some ⟨gp, 0, none⟩)) w2 W → ¬ lr = lb → IsRDev (makeN D p want (k + 1)).1 W (grow F w W) (.pointer (some ⟨gp, 0, none⟩)) ∧ (makeN D p want (k + 1)).2 = true ∧ Only F w W) := Lib.hid fun W hp hne => by
          rw [hlbw] at hp hne
          exact FIN.out W w2 hb2 hp hne
        have F2 : Hid (lr = lb → IsRDev (makeN D p want (k + 1)).1 w2 (grow F w w2) (.pointer (some ⟨gp, 0, none⟩)) ∧ (makeN D p want (k + 1)).2 = bk ∧ Only F w w2) := Lib.hid fun he => FIN2.out w2 hb2 (by rw [← hlbw]; exact he)
        clear hrd ho2 hs2 hlb2 TXT hd hO hFr hgood k2 kr hF2 hl128 hlbw FIN FIN2 hnx hlr hb2 x2 s2
        by_cases he : lr = lb
        · have hbn2 : ((strB lr).toList == (strB lb).toList) = true := by rw [hbn]; exact decide_eq_true he
          have hbn3 : ((strB lr).toList != (strB lb).toList) = false := by rw [bne, hbn2]; rfl
          have H := Lib.hid (F2.out he)
          clear F1 F2 he hwt hbn
          go_wp2
          go_roundw
          case rel => exact ⟨k + 1, by omega, by go_num, by rw [H.out.2.1], H.out.1, H.out.2.2⟩
          case measure => simp [intOf]; omega
        · have hbn2 : ((strB lr).toList == (strB lb).toList) = false := by rw [hbn]; exact decide_eq_false he
          have hbn3 : ((strB lr).toList != (strB lb).toList) = true := by rw [bne, hbn2]; rfl
          have H := Lib.hid fun W hp => F1.out W hp he
          clear F1 F2 he hbn
          go_wp2_with fail
          refine hwt.mono ?_
          rintro e w4 ⟨rfl, hp⟩
          have H4 := Lib.hid (H.out w4 hp)
          clear hp H hwt r1 r2
          go_wp2
          go_roundw
          case rel => exact ⟨k + 1, by omega, by go_num, by rw [H4.out.2.1], H4.out.1, H4.out.2.2⟩
          case measure => simp [intOf]; omega
    · obtain rfl : k = n := by omega
      have e1 : decide ((k : Int) < (k : Int)) = false := by rw [decide_eq_false_iff_not]; omega
      have hmk : makeP D p k want = if bk = true then Dk.sync 0 else Dk := by unfold makeP; rw [hs]
      have OUT : Hid (∀ W, RPost (makeP D p k want) (grow F w wr) (.pointer (some ⟨gp, 0, none⟩)) wr W → RPost (makeP D p k want) F (.pointer (some ⟨gp, 0, none⟩)) w W) := Lib.hid fun W hp => by
        refine ⟨hp.1.mono fun b z => ?_, hO.trans hp.2 fun b z => z.imp id fun y => y.1⟩
        have h3 := hO.size
        have h4 := hp.2.size
        rcases z with (z | z) | z
        · exact .inl z
        · exact .inr ⟨by omega, by omega⟩
        · exact .inr ⟨by omega, by omega⟩
      have c4 : wr.cell? ⟨gl, 0, none⟩ = some (.pointer (some ⟨gp, 0, none⟩)) := kr.cell 0
      cases bk with
      | true =>
        rw [if_pos rfl] at hmk
        have hsy := rsync_any hd hFr hgood (by omega) 0 (by omega)
        rw [← hmk] at hsy
        clear hd hO hFr hgood kr hs hmk hnx hgl1
        go_wp2_with fail
        refine hsy.mono ?_
        rintro e w2 ⟨rfl, hp⟩
        have H := Lib.hid (OUT.out w2 hp)
        clear hp OUT hsy
        go_wp2
        go_end0
        exact ⟨rfl, H.out⟩
      | false =>
        rw [if_neg (by simp)] at hmk
        have H := Lib.hid (OUT.out wr (by rw [hmk]; exact RPost.refl hd))
        clear hd hO hFr hgood kr hs hmk hnx hgl1 OUT
        go_wp2
        go_end0
        exact ⟨rfl, H.out⟩
end Go.Proofs.YtkganajbilnanaaGreat
