/- wal: say. Conditions: the log lies there. -/
import Derived.Test.YtkganajbilnanaaWWalK
namespace Go.Proofs.Ytkganajbilnanaa
open Go.ChangeShapes Go.WideShapes Go.ChangeAt Go.RowKit
open NumMath
set_option linter.unusedVariables false
set_option linter.unusedSimpArgs false
set_option maxRecDepth 20000

set_option maxHeartbeats 8000000 in
theorem say_any {L : LogP} {D : DevP} {w : World} {F G : Nat → Prop} {gl : Nat} {pd sv st : Value} (h : Lg L D w F G gl pd sv st) (hf : L.h.Fits) (hsl : L.slot ≤ 1) {N : Nat} (hG : D.good N) (hN : N + 1 ≤ 100000) :
    Calls Try.prog 47 #[.pointer (some ⟨gl, 0, none⟩)] w fun e w' => e = .returned (.tuple #[]) ∧ LgPost (sayL L) (sayD L D) F G gl pd w w' := by
  obtain ⟨⟨stamp, base, check, area⟩, strips, slot, stream, starts, lasts⟩ := L
  obtain ⟨gp, s0, lv0, X0, rfl, -⟩ := id h.dev
  obtain ⟨f0, f1, f2, f3⟩ := hf
  simp only at hsl f0 f1 f2 f3
  obtain ⟨st', hst⟩ : ∃ x, (stamp + 1) % 18446744073709551616 = x := ⟨_, rfl⟩
  obtain ⟨sl', hsl'⟩ : ∃ x, 1 - slot = x := ⟨_, rfl⟩
  have v1 : IntKind.u64.wrap ((stamp : Int) + 1) = (st' : Int) := by rw [IntKind.wrap_u64]; omega
  have v2 : IntKind.i64.wrap (1 - (slot : Int)) = (sl' : Int) := by rw [IntKind.wrap_i64]; omega
  have hfit : HeadP.Fits ⟨st', base, check, area⟩ := ⟨by show st' < _; omega, f1, f2, f3⟩
  have kb := h.log.blk
  have c0 : w.cell? ⟨gl, 0, none⟩ = some (.int .u64 (stamp : Nat)) := kb.cell 0
  have c6 : w.cell? ⟨gl, 6, none⟩ = some (.int .i64 (slot : Nat)) := kb.cell 6
  have z0 : w.frozen? ⟨gl, 0, none⟩ = false := kb.frozen 0
  have z6 : w.frozen? ⟨gl, 6, none⟩ = false := kb.frozen 6
  have kW : Blk ((w.setCell ⟨gl, 0, none⟩ (.int .u64 (st' : Nat))).setCell ⟨gl, 6, none⟩ (.int .i64 (sl' : Nat))) gl 75 (logV ⟨st', base, check, area⟩ (.pointer (some ⟨gp, 0, none⟩)) strips sl' sv st lasts) := (kb.set_ 0 _).set_ 6 _
  have oW : Only (fun b => b = gl) w ((w.setCell ⟨gl, 0, none⟩ (.int .u64 (st' : Nat))).setCell ⟨gl, 6, none⟩ (.int .i64 (sl' : Nat))) := ((Only.refl (fun b => b = gl) w).setCell (p := ⟨gl, 0, none⟩) (.inl rfl) _).setCell (p := ⟨gl, 6, none⟩) (.inl rfl) _
  have hL : sayL ⟨⟨stamp, base, check, area⟩, strips, slot, stream, starts, lasts⟩ = ⟨⟨st', base, check, area⟩, strips, sl', stream, starts, lasts⟩ := by unfold sayL; simp only [hst, hsl']
  have hD : sayD ⟨⟨stamp, base, check, area⟩, strips, slot, stream, starts, lasts⟩ D = ((D.write 0 (sl' : Int) (hsec ⟨st', base, check, area⟩)).2).sync 0 := by unfold sayD; rw [hL]
  have hB : LgPost ⟨⟨st', base, check, area⟩, strips, sl', stream, starts, lasts⟩ D F G gl (.pointer (some ⟨gp, 0, none⟩)) w _ := LgPost.box h oW kW rfl rfl
  have hLW := h.box (L' := ⟨⟨st', base, check, area⟩, strips, sl', stream, starts, lasts⟩) oW kW rfl rfl
  have hgG : G gl := h.log.inG
  have hoG : Only (fun b => F b ∨ G b) w _ := oW.mono (S' := fun b => F b ∨ G b) fun b e => .inl (.inr (by rw [e]; exact hgG))
  rw [hL, hD]
  have CS : Hid (∀ W, Calls Try.prog 68 #[.agg #[.int .u64 (st' : Nat), .int .u64 (base : Nat), .int .u64 (check : Nat), .int .i64 (area : Nat)]] W (RetBytes 5 (hsec ⟨st', base, check, area⟩) W)) := Lib.hid fun W => sector_any ⟨st', base, check, area⟩ hfit W
  have HS := Lib.hid (hsec_small hfit)
  generalize hsec ⟨st', base, check, area⟩ = lh at *
  have HLW := Lib.hid hLW
  have HKW := Lib.hid kW
  have HOG := Lib.hid hoG
  clear hL hD hB hLW h kb kW oW hst hsl' hsl f0 f1 f2 f3 hoG hfit
  go_enter Try.func47, Try.ntmps47
  go_upto_region 2 with fail
  generalize World.setCell _ _ _ = W at *
  have hg : gl < W.heap.size := HKW.out.lt
  have hFW : ∀ b, F b → b < W.heap.size := HLW.out.hiF
  have nF : ¬ F gl := fun q => HLW.out.dis gl q hgG
  have CELLS : Hid (∀ W', Only F W W' → W'.cell? ⟨gl, 0, none⟩ = some (.int .u64 (st' : Nat)) ∧ W'.cell? ⟨gl, 1, none⟩ = some (.int .u64 (base : Nat)) ∧ W'.cell? ⟨gl, 2, none⟩ = some (.int .u64 (check : Nat)) ∧ W'.cell? ⟨gl, 3, none⟩ = some (.int .i64 (area : Nat)) ∧ W'.cell? ⟨gl, 4, none⟩ = some (.pointer (some ⟨gp, 0, none⟩)) ∧ W'.cell? ⟨gl, 6, none⟩ = some (.int .i64 (sl' : Nat))) := Lib.hid fun W' ho => by
    have k := HKW.out.only ho nF
    exact ⟨k.cell 0, k.cell 1, k.cell 2, k.cell 3, k.cell 4, k.cell 6⟩
  have cs := CS.out W.drew
  have bd := below_drew0 W
  have x0 := CELLS.out W.drew (Only.of_below bd F)
  have WR : Hid (∀ W' A c, Below W.heap.size W W' → BytesIn W' (fun b => ¬ F b) A lh → Calls Try.prog 63 #[.pointer (some ⟨gp, 0, none⟩), .int .u8 0, .int .i64 (sl' : Int), .slice A lh.length c] W' fun e w' => e = .returned (.int .u16 ((D.write 0 (sl' : Int) lh).1 : Nat)) ∧ DevPost (D.write 0 (sl' : Int) lh).2 F (.pointer (some ⟨gp, 0, none⟩)) W' w') := Lib.hid fun W' A c hb hx =>
    write_any (HLW.out.dev.below hb) (fun b q => Nat.lt_of_lt_of_le (hFW b q) hb.size) hG (by omega) 0 (by omega) (sl' : Int) A c _ hx
  have HG2 : Hid ((D.write 0 (sl' : Int) lh).2.good (N + 1)) := Lib.hid (hG.write 0 _ _)
  clear hG
  go_cut [] (fun wx => ∃ w3, Below W.heap.size W w3 ∧ DevPost (D.write 0 (sl' : Int) lh).2 F (.pointer (some ⟨gp, 0, none⟩)) w3 wx)
  case first =>
    go_wp2_with fail
    go_region_held3 (fun W' => W'.cell? ⟨gl, 0, none⟩ = some (.int .u64 (st' : Nat)) ∧ W'.cell? ⟨gl, 1, none⟩ = some (.int .u64 (base : Nat)) ∧ W'.cell? ⟨gl, 2, none⟩ = some (.int .u64 (check : Nat)) ∧ W'.cell? ⟨gl, 3, none⟩ = some (.int .i64 (area : Nat)) ∧ W'.cell? ⟨gl, 4, none⟩ = some (.pointer (some ⟨gp, 0, none⟩)) ∧ W'.cell? ⟨gl, 6, none⟩ = some (.int .i64 (sl' : Nat)))
      (first | with_reducible (exact x0) | with_reducible (exact x1) | with_reducible (exact x2) | fail)
      (first
        | ((with_reducible refine cs.mono ?_); rintro e w3 ⟨A3, c3, rfl, ho3, hb3, hs3⟩; have hB3 := bd.trans (hb3.mono bd.size); have x1 := CELLS.out w3 (Only.of_below hB3 F); have cw := WR.out w3 A3 c3 hB3 (out_own ho3 HS.out hFW))
        | ((with_reducible refine cw.mono ?_); rintro e w4 ⟨rfl, hp4⟩; have x2 := CELLS.out w4 ((Only.of_below hB3 F).trans hp4.2 fun b q => .inl q); have H4 := Lib.hid hp4)
        | fail)
    all_goals
      go_wp2
      go_meet
      case rel => exact ⟨w3, hB3, H4.out⟩
  case rest =>
    rename World => wx
    obtain ⟨w3, hb3, hp⟩ := hcut
    have hL3 := (HLW.out.below hb3).devPost hp
    have c4 : wx.cell? ⟨gl, 4, none⟩ = some (.pointer (some ⟨gp, 0, none⟩)) := hL3.log.blk.cell 4
    have hsy := sync_any hL3.dev hL3.hiF HG2.out (by omega) 0 (by omega)
    have FIN : Hid (∀ W', DevPost (((D.write 0 (sl' : Int) lh).2).sync 0) (grow F w3 wx) (.pointer (some ⟨gp, 0, none⟩)) wx W' → LgPost ⟨⟨st', base, check, area⟩, strips, sl', stream, starts, lasts⟩ (((D.write 0 (sl' : Int) lh).2).sync 0) F G gl (.pointer (some ⟨gp, 0, none⟩)) w W') := Lib.hid fun W' hq => by
      refine LgPost.trans (F' := F) (G' := G) (fun b q => .inl q) (fun b q => .inl q) HOG.out ?_
      refine LgPost.lead hb3 ?_
      refine LgPost.trans (F' := grow F w3 wx) (G' := G) (fun b q => q) (fun b q => .inl q) (hp.2.mono fun b q => .inl (.inl q)) ?_
      exact LgPost.dev hL3 hq
    clear hL3 hp hb3 x0 bd cs hFW
    go_wp2_with fail
    refine hsy.mono ?_
    rintro e w5 ⟨rfl, hq⟩
    have H := Lib.hid (FIN.out w5 hq)
    clear hq FIN hsy
    go_wp2
    go_end0
    exact ⟨rfl, H.out⟩
end Go.Proofs.Ytkganajbilnanaa
