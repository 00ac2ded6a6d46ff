/- wal: Renew. Conditions: the log lies there. -/
import Derived.Test.YtkganajbilnanaaWWalR
namespace Go.Proofs.Ytkganajbilnanaa
open Go.ChangeShapes Go.WideShapes Go.ChangeAt Go.RowKit
open NumMath
set_option linter.unusedVariables false
set_option linter.unusedSimpArgs false
set_option maxRecDepth 20000

/-- all but the header is gone -/
theorem Lg.clear {L L' : LogP} {D : DevP} {w w' : World} {F G : Nat → Prop} {gl : Nat} {pd sv st : Value} (h : Lg L D w F G gl pd sv st) (ho : Only (fun b => b = gl) w w') (hb : Blk w' gl 75 (logV L'.h pd L'.strips L'.slot (.slice none 0 0) (.slice none 0 0) L'.lasts)) (h1 : L'.stream = []) (h2 : L'.starts = []) : Lg L' D w' F G gl pd (.slice none 0 0) (.slice none 0 0) :=
  ⟨h.dev.only ho fun b q e => by subst e; exact h.dis b q h.log.inG, ⟨hb, h.log.inG, by rw [h1]; exact Strm.nil _ _, by rw [h2]; exact World.ownsRow_nil _ _ _ _, fun b e => by cases e⟩, h.dis, fun b q => Nat.lt_of_lt_of_le (h.hiF b q) ho.size, fun b q => Nat.lt_of_lt_of_le (h.hiG b q) ho.size⟩
theorem makeP_good1 {D : DevP} {N : Nat} (h : D.good N) (p n : Nat) (hn : n ≤ 700) (want : List (List Nat)) : (makeP D p n want).good (N + 700) := (makeP_good h p n want).mono (by omega)
set_option maxHeartbeats 8000000 in
theorem renew_any {L : LogP} {D : DevP} {w : World} {F G : Nat → Prop} {gl : Nat} {pd sv st : Value} (h : Lg L D w F G gl pd sv st) (hk : L.ok) {N : Nat} (hG : D.good N) (hN : N + 6000 ≤ 100000) :
    Calls Try.prog 24 #[.pointer (some ⟨gl, 0, none⟩)] w fun e w' => e = .returned (.tuple #[]) ∧ LgPost (renewL L) (renewD L D) F G gl pd w w' := by
  obtain ⟨gp, s0, lv0, X0, rfl, -⟩ := id h.dev
  have cfl : Calls Try.prog 46 #[.pointer (some ⟨gl, 0, none⟩), .int .u64 18446744073709551615] w fun e w' => e = .returned (.tuple #[]) ∧ LgPost (flushL L topN) (flushD L D topN) F G gl (.pointer (some ⟨gp, 0, none⟩)) w w' := flush_any h hk hG (by omega) topN (by decide)
  have hgd := flushD_good hk hG topN
  have hok := flushL_ok hk topN
  have e1 := flushL_h L topN
  have e2 := flushL_slot L topN
  have e3 := flushL_strips L topN
  have e4 := flushL_stream L topN
  have hL : renewL L = sayL (renewM L) := rfl
  have hD : renewD L D = sayD (renewM L) (makeP (flushD L D topN) (firstP L (1 - L.h.area)) L.strips []) := rfl
  have hM : renewM L = ⟨⟨L.h.stamp, L.h.base + L.stream.length, 0, 1 - L.h.area⟩, L.strips, L.slot, [], [], 0⟩ := rfl
  have hP : firstP L (1 - L.h.area) = 2 + (1 - L.h.area) * L.strips := rfl
  rw [hL, hD]
  generalize flushL L topN = L1 at *
  generalize flushD L D topN = D1 at *
  generalize renewM L = LM at *
  generalize firstP L (1 - L.h.area) = p0 at *
  have hst := hk.strips
  have har := hk.area
  have hbase := hk.base
  rw [← e1, ← e2, ← e3, ← e4] at hM
  rw [← e3, ← e1] at hP
  rw [← e1, ← e4] at hbase
  rw [← e1] at har
  rw [← e3] at hst
  rw [← e3]
  clear hL hD h hG hk e1 e2 e3 e4
  obtain ⟨⟨stamp, base, check, area⟩, strips, slot, stream, starts, lasts⟩ := L1
  simp only at *
  obtain ⟨na, hna⟩ : ∃ na, 1 - area = na := ⟨_, rfl⟩
  obtain ⟨n, hn⟩ : ∃ n, stream.length = n := ⟨_, rfl⟩
  rw [hna] at hM hP
  rw [hn] at hM hbase
  obtain ⟨b2, hb2⟩ : ∃ b2, base + n = b2 := ⟨_, rfl⟩
  rw [hb2] at hM hbase
  have HB2 := Lib.hid hb2
  have hp0 : p0 ≤ 3000 := by
    have h2 : na * strips ≤ 1 * 700 := Nat.mul_le_mul (by omega) hst
    omega
  have V1 : Hid (IntKind.i64.wrap (1 - (area : Int)) = (na : Int)) := Lib.hid (by rw [IntKind.wrap_i64]; omega)
  have hna2 : na < 2 := by omega
  have hna3 : na < 256 := by omega
  have HM := Lib.hid hM
  have HN := Lib.hid hn
  have HOK := Lib.hid hok
  have hmg := makeP_good1 hgd p0 strips hst []
  clear hM hna hn hok hb2
  go_enter Try.func24, Try.ntmps24
  go_wp2_with fail
  refine cfl.mono ?_
  rintro e w2 ⟨rfl, F1, G1, sv1, st1, hL1, hF1, hG1, hO1⟩
  have k1 := hL1.log.blk
  have HL1 := Lib.hid hL1
  have nF : ¬ F1 gl := fun q => hL1.dis gl q hL1.log.inG
  have bd := below_drew0 w2
  have FI : Calls Try.prog 39 #[.pointer (some ⟨gl, 0, none⟩), .int .i64 (na : Nat)] w2.drew fun e w' => e = .returned (.int .i64 (p0 : Int)) ∧ w2.drew = w' := by
    have := first_any (k1.below bd k1.lt) (by exact Nat.le_trans hst (by decide)) na hna2
    rw [show 2 + na * strips = p0 from hP.symm] at this
    exact this
  have cmk : Calls Try.prog 42 #[.pointer (some ⟨gl, 0, none⟩), .int .i64 (p0 : Nat), .int .i64 (strips : Nat), .slice none 0 0] w2.drew fun e w' => e = .returned (.tuple #[]) ∧ DevPost (makeP D1 p0 strips []) F1 (.pointer (some ⟨gp, 0, none⟩)) w2.drew w' := make_any (hL1.drew).dev (hL1.drew).hiF hgd (hL1.drew).log.blk nF p0 strips (by omega) (by omega) (by omega) none 0 [] [] (fun j hj => absurd hj (by simp)) (Outs.nil _ _) (by simp) (fun l hl => by cases hl)
  have CELLS : Hid (∀ W', Only F1 w2 W' → W'.cell? ⟨gl, 3, none⟩ = some (.int .i64 (area : Nat)) ∧ W'.cell? ⟨gl, 5, none⟩ = some (.int .i64 (strips : Nat))) := Lib.hid fun W' ho => by
    have k := k1.only ho nF
    exact ⟨k.cell 3, k.cell 5⟩
  have x0 := CELLS.out w2.drew (Only.of_below bd _)
  have FIN : Hid (∀ w5 w6 w7, DevPost (makeP D1 p0 strips []) F1 (.pointer (some ⟨gp, 0, none⟩)) w2.drew w5 → Only (fun b => b = gl) w5 w6 → LgPost (sayL LM) (sayD LM (makeP D1 p0 strips [])) (grow F1 w2.drew w5) G1 gl (.pointer (some ⟨gp, 0, none⟩)) w6 w7 → LgPost (sayL LM) (sayD LM (makeP D1 p0 strips [])) F G gl (.pointer (some ⟨gp, 0, none⟩)) w w7) := Lib.hid fun w5 w6 w7 h1 h2 h3 => by
    refine LgPost.trans hF1 hG1 hO1 ?_
    refine LgPost.lead bd ?_
    refine LgPost.trans (F' := grow F1 w2.drew w5) (G' := G1) (fun b q => q) (fun b q => .inl q) (h1.2.mono fun b q => .inl (.inl q)) ?_
    exact LgPost.trans (F' := grow F1 w2.drew w5) (G' := G1) (fun b q => .inl q) (fun b q => .inl q) (h2.mono fun b e => .inl (.inr (by rw [e]; exact HL1.out.log.inG))) h3
  have BD := Lib.hid bd
  clear cfl hL1 hF1 hG1 hO1 k1 hP hp0 hna2 har bd
  go_upto_region 1 with fail
  go_cut [] (fun wx => DevPost (makeP D1 p0 strips []) F1 (.pointer (some ⟨gp, 0, none⟩)) w2.drew wx)
  case first =>
    have v1 := V1.out
    go_wp2_with fail
    go_region_held3 (fun W' => W'.cell? ⟨gl, 3, none⟩ = some (.int .i64 (area : Nat)) ∧ W'.cell? ⟨gl, 5, none⟩ = some (.int .i64 (strips : Nat)))
      (first | with_reducible (exact x0) | with_reducible (exact x2) | fail)
      (first
        | ((with_reducible refine FI.mono ?_); rintro e w4 ⟨rfl, rfl⟩)
        | ((with_reducible refine cmk.mono ?_); rintro e w5 ⟨rfl, hp5⟩; have x2 := CELLS.out w5 ((Only.of_below BD.out _).trans hp5.2 fun b z => .inl z); have H5 := Lib.hid hp5)
        | fail)
    all_goals
      clear v1
      go_wp2
      go_meet
      case rel => exact H5.out
  case rest =>
    rename World => w5
    clear x0 CELLS cmk FI
    have hL5 := HL1.out.drew.devPost hcut
    have k5 := hL5.log.blk
    obtain ⟨Av, cv, rfl, hcv, -⟩ := hL5.log.bytes
    have cend := end_any k5 (by rw [HN.out, HB2.out]; exact hbase)
    rw [show stream.length = n from HN.out, show base + n = b2 from HB2.out] at cend
    clear k5 hcv
    go_wp2_with fail
    refine cend.mono ?_
    rintro e w6 ⟨rfl, hd6⟩
    have hB6 := hd6.below w5.heap.size
    have hL6 := hL5.below hB6
    have k6 := hL6.log.blk
    have c1 : w6.cell? ⟨gl, 1, none⟩ = some (.int .u64 (base : Nat)) := k6.cell 1
    have c2 : w6.cell? ⟨gl, 2, none⟩ = some (.int .u64 (check : Nat)) := k6.cell 2
    have c3 : w6.cell? ⟨gl, 3, none⟩ = some (.int .i64 (area : Nat)) := k6.cell 3
    have c7 : w6.cell? ⟨gl, 7, none⟩ = some (.slice Av n cv) := by rw [← HN.out]; exact k6.cell 7
    have c8 : w6.cell? ⟨gl, 8, none⟩ = some st1 := k6.cell 8
    have c9 : w6.cell? ⟨gl, 9, none⟩ = some (.int .i64 (lasts : Nat)) := k6.cell 9
    have z1 : w6.frozen? ⟨gl, 1, none⟩ = false := k6.frozen 1
    have z2 : w6.frozen? ⟨gl, 2, none⟩ = false := k6.frozen 2
    have z3 : w6.frozen? ⟨gl, 3, none⟩ = false := k6.frozen 3
    have z7 : w6.frozen? ⟨gl, 7, none⟩ = false := k6.frozen 7
    have z8 : w6.frozen? ⟨gl, 8, none⟩ = false := k6.frozen 8
    have z9 : w6.frozen? ⟨gl, 9, none⟩ = false := k6.frozen 9
    obtain ⟨W, hW⟩ : ∃ W, (((((w6.setCell ⟨gl, 1, none⟩ (.int .u64 (b2 : Nat))).setCell ⟨gl, 3, none⟩ (.int .i64 (na : Nat))).setCell ⟨gl, 7, none⟩ (.slice none 0 0)).setCell ⟨gl, 8, none⟩ (.slice none 0 0)).setCell ⟨gl, 9, none⟩ (.int .i64 0)).setCell ⟨gl, 2, none⟩ (.int .u64 0) = W := ⟨_, rfl⟩
    have kW : Blk W gl 75 (logV LM.h (.pointer (some ⟨gp, 0, none⟩)) LM.strips LM.slot (.slice none 0 0) (.slice none 0 0) LM.lasts) := by
      rw [HM.out, ← hW]
      exact (((((k6.set_ 1 _).set_ 3 _).set_ 7 _).set_ 8 _).set_ 9 _).set_ 2 _
    have oW : Only (fun b => b = gl) w6 W := by
      rw [← hW]
      exact ((((((Only.refl (fun b => b = gl) w6).setCell (p := ⟨gl, 1, none⟩) (.inl rfl) _).setCell (p := ⟨gl, 3, none⟩) (.inl rfl) _).setCell (p := ⟨gl, 7, none⟩) (.inl rfl) _).setCell (p := ⟨gl, 8, none⟩) (.inl rfl) _).setCell (p := ⟨gl, 9, none⟩) (.inl rfl) _).setCell (p := ⟨gl, 2, none⟩) (.inl rfl) _
    have hLW := Lg.clear hL6 oW kW (by rw [HM.out]) (by rw [HM.out])
    have HLW := Lib.hid hLW
    have HO5 : Hid (Only (fun b => b = gl) w5 W) := Lib.hid ((Only.of_below hB6 (fun b => b = gl)).trans oW fun b e => .inl e)
    have HC := Lib.hid hcut
    have hfit : LM.h.Fits := by
      rw [HM.out]
      exact ⟨HOK.out.fits.1, hbase, (by decide : (0 : Nat) < 18446744073709551616), hna3⟩
    have hslot : LM.slot ≤ 1 := by rw [HM.out]; exact HOK.out.slot
    have csy := say_any HLW.out hfit hslot hmg (by omega)
    have v1 := V1.out
    have HWq := Lib.hid hW
    clear cend hd6 hB6 hL6 k6 kW oW hLW hcut hL5 hW hfit hslot hbase
    go_upto_region 5 with fail
    rw [show _ = W from HWq.out]
    clear v1
    go_wp2_with fail
    refine csy.mono ?_
    rintro e w7 ⟨rfl, hp⟩
    have H := Lib.hid (FIN.out _ _ _ HC.out HO5.out hp)
    clear hp FIN csy HLW
    go_wp2
    go_end0
    exact ⟨rfl, H.out⟩
end Go.Proofs.Ytkganajbilnanaa
