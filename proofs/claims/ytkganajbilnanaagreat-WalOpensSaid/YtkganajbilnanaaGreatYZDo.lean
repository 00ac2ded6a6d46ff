/- wal's law: does. Conditions: both logs lie there; so does the call. (Printed by gen_zdo.py.) -/
import Derived.Test.YtkganajbilnanaaGreatYZReads
import Derived.Test.YtkganajbilnanaaGreatYRP
set_option linter.unusedVariables false
set_option linter.unusedSimpArgs false
namespace Go.Proofs.YtkganajbilnanaaGreat
open Go.ChangeShapes Go.WideShapes Go.ChangeAt Go.RowKit
open NumMath
set_option maxRecDepth 20000
theorem app_code (L : LogP) (r : RecP) (sp : Nat) : (appP L r sp).1.2 < 100 := by
  unfold appP
  split
  · show 61 < 100; decide
  · split
    · show 80 < 100; decide
    · show 0 < 100; decide
theorem TwoAt.postA2 {w0 w w' : World} {LA LB L' : LogP} {DA DB D' : DevP} {F G H K : Nat → Prop} {gt ga gb : Nat} {pd pe sv st sv' st' : Value} (h : TwoAt w0 LA DA LB DB w F G H K gt ga gb pd pe sv st sv' st') (hw : w0.heap.size ≤ w.heap.size) (hp : LgPost L' D' F G ga pd w w') : (∃ F' G' sv1 st1, TwoAt w0 L' D' LB DB w' F' G' H K gt ga gb pd pe sv1 st1 sv' st') ∧ Below w0.heap.size w w' := by
  obtain ⟨F', G', sv1, st1, q1, q2, q3, q4⟩ := hp
  have hb := q4.below hw fun b q => h.lo b (.inl q)
  have hs := q4.size
  have old : ∀ b, F' b ∨ G' b → b < w.heap.size → F b ∨ G b := fun b q z => by
    rcases q with q | q
    · rcases q2 b q with y | y
      · exact .inl y
      · omega
    · rcases q3 b q with y | y
      · exact .inr y
      · omega
  refine ⟨⟨F', G', sv1, st1, h.blk.only q4 h.nA, q1, h.b.only8 q4 fun b z y => h.dis b y z, fun x q z => ?_, fun q => h.nA (old gt q h.blk.lt), h.nB, fun x q => ?_, h.lot⟩, hb⟩
  · exact h.dis x (old x q (h.hi x (.inr z))) z
  · rcases q with q | q
    · rcases Nat.lt_or_ge x w.heap.size with z | z
      · exact h.lo x (.inl (old x q z))
      · omega
    · exact h.lo x (.inr q)
theorem lgpost_only {L' : LogP} {D' : DevP} {F G : Nat → Prop} {gl : Nat} {pd : Value} {w w' : World} (h : LgPost L' D' F G gl pd w w') : Only (fun b => F b ∨ G b) w w' := by
  obtain ⟨_, _, _, _, _, _, _, q⟩ := h
  exact q
theorem rlgpost_only {L' : LogP} {D' : DevP} {F G : Nat → Prop} {gl : Nat} {pd : Value} {w w' : World} (h : RLgPost L' D' F G gl pd w w') : Only (fun b => F b ∨ G b) w w' := by
  obtain ⟨_, _, _, _, _, _, _, q⟩ := h
  exact q
def DoPost (w0 : World) (L : LogP) (D : DevP) (x : WOp) (w : World) (gt ga gb gp gr : Nat) (e : Ending) (w' : World) : Prop :=
  e = .returned (.bool true) ∧ IsTwo w0 (doZ L D x).1 (doZ L D x).2 (doZ L D x).1 (doZ L D x).2 w' gt ga gb (.pointer (some ⟨gp, 0, none⟩)) (.pointer (some ⟨gr, 0, none⟩)) ∧ Below w0.heap.size w w'
set_option maxHeartbeats 16000000 in
theorem tdoes_any {w0 w : World} {L : LogP} {D : DevP} {rs : List RecP} {gt ga gb gp gr i B : Nat} (h : IsTwo w0 L D L D w gt ga gb (.pointer (some ⟨gp, 0, none⟩)) (.pointer (some ⟨gr, 0, none⟩))) (hz : Z8 L D rs i) (hi : i ≤ 12) (hw : w0.heap.size ≤ w.heap.size) (x : WOp) (m : RecMm) (Af : Option Addr) (cf : Nat) (hx : WOpV w B x m Af cf) (hB : B ≤ w0.heap.size) (h8 : x.kind % 11 ≠ 8) (h9 : x.kind % 11 ≠ 9) :
    Calls Tryz.prog 13 #[.pointer (some ⟨gt, 0, none⟩), .agg (wopA x m Af cf).toArray] w (DoPost w0 L D x w gt ga gb gp gr) := by
  have kob := Blk.new w 54 (wopA x m Af cf).toArray
  have hb1 := below_alloc w (.cells (wopA x m Af cf).toArray 54)
  obtain ⟨F, G, H, K, sv, st, sv', st', T⟩ := h
  have T1 := T.below hb1
  have hk := hz.fit
  have hs62 := hz.strips
  have hG := hz.good
  obtain ⟨N, hN⟩ : ∃ N, 1000 + 1500 * i = N := ⟨_, rfl⟩
  rw [hN] at hG
  have hN2 : N + 6000 ≤ 100000 := by omega
  have hsize := T.hi
  have HXV := Lib.hid hx
  have HB0 := Lib.hid (And.intro hw hB)
  have CPL : Hid (∀ W, Below w.heap.size w W → Calls Tryz.prog 54 #[.pointer (some ⟨gt, 0, none⟩), .int .u64 (x.at_ : Nat)] W fun e w' => e = .returned (.int .u64 (placeP L x.at_ : Nat)) ∧ Below W.heap.size W w') := Lib.hid fun W hW => tplace_any ⟨F, G, H, K, sv, st, sv', st', T.below hW⟩ hk hs62 x.at_ hx.at_
  have hp64 := fit_place hk hx.at_
  have hx64 := hx.at_
  obtain ⟨mk, hmk⟩ : ∃ mk, x.kind % 11 = mk := ⟨_, rfl⟩
  rw [hmk] at h8 h9
  have R1 : Hid ((x.kind : Int) % 11 = (mk : Int)) := Lib.hid (by omega)
  have R2 : Hid (Int.tmod (x.kind : Int) 11 = (mk : Int)) := Lib.hid (by rw [Int.tmod_eq_emod_of_nonneg (by omega)]; exact R1.out)
  have hmk11 : mk < 11 := by omega
  have HT := Lib.hid T
  clear hx hw hB T hi hz hN
  go_enter Tryz.func13, Tryz.ntmps13
  go_upto_region 1 with fail
  generalize World.alloc w _ = w1 at *
  obtain ⟨go, hgo⟩ : ∃ go, w.heap.size = go := ⟨_, rfl⟩
  have hkl := kob.lt
  rw [hgo] at kob hsize hkl
  rw [hgo]
  clear hgo
  have cpl := CPL.out w1 hb1
  have y14 : w1.cell? ⟨go, 14, none⟩ = some (.int .u64 (x.at_ : Nat)) := kob.cell 14
  go_wp2_with fail
  refine cpl.mono ?_
  rintro e w2 ⟨rfl, hb2⟩
  have hb12 := hb1.trans (hb2.mono hb1.size)
  have T2 := Lib.hid (T1.below hb2)
  have ko2 := kob.below hb2 hkl
  have ngA : ¬ (F go ∨ G go) := fun q => by have := hsize go (.inl q); omega
  have ngB : ¬ (H go ∨ K go) := fun q => by have := hsize go (.inr q); omega
  have HW2 : Hid (w0.heap.size ≤ w2.heap.size) := Lib.hid (Nat.le_trans HB0.out.1 hb12.size)
  have HB02 : Hid (Below w0.heap.size w w2) := Lib.hid (hb12.mono HB0.out.1)
  have KO := Lib.hid ko2
  have c0 : w2.cell? ⟨go, 0, none⟩ = some (.int .u8 (x.kind : Nat)) := ko2.cell 0
  have c2 : w2.cell? ⟨gt, 2, none⟩ = some (.pointer (some ⟨ga, 0, none⟩)) := T2.out.blk.cell 2
  have RC : Hid (RecAt w2 B x.r m) := Lib.hid (HXV.out.rc.below (HB02.out.mono HB0.out.2))
  clear cpl y14 CPL T1 kob hb1 hb2 hb12 ko2 hsize hkl HT
  obtain ⟨pl, hpl⟩ : ∃ pl, placeP L x.at_ = pl := ⟨_, rfl⟩
  rw [hpl] at hp64 ⊢
  have r1 := R1.out
  have r2 := R2.out
  rcases (show mk = 4 ∨ mk = 5 ∨ mk = 6 ∨ mk = 7 ∨ mk = 10 ∨ (mk = 0 ∨ mk = 1 ∨ mk = 2 ∨ mk = 3) by omega) with z | z | z | z | z | z
  · subst z
    have hst : doZ L D x = (flushL L pl, flushD L D pl) := by unfold doZ; rw [if_pos hmk, hpl]
    have cA : Calls Tryz.prog 55 #[.pointer (some ⟨ga, 0, none⟩), .int .u64 (pl : Nat)] w2 fun e w' => e = .returned (.tuple #[]) ∧ LgPost (flushL L pl) (flushD L D pl) F G ga (.pointer (some ⟨gp, 0, none⟩)) w2 w' := flush_any T2.out.a hk.ok hG (by omega) pl hp64
    have FIN : Hid (∀ W W2, IsTwo w0 (flushL L pl) (flushD L D pl) (flushL L pl) (flushD L D pl) W2 gt ga gb (.pointer (some ⟨gp, 0, none⟩)) (.pointer (some ⟨gr, 0, none⟩)) → Below w0.heap.size w2 W → Below w0.heap.size W W2 → DoPost w0 L D x w gt ga gb gp gr (.returned (.bool true)) W2) := Lib.hid fun W W2 a b c => ⟨rfl, by rw [hst]; exact a, HB02.out.trans (b.trans c)⟩
    clear hst hmk
    go_wp2_with fail
    refine cA.mono ?_
    rintro e w3 ⟨rfl, hp3⟩
    obtain ⟨T3, b3⟩ := T2.out.postA HW2.out hp3
    have hw3 : w0.heap.size ≤ w3.heap.size := Nat.le_trans HW2.out b3.size
    obtain ⟨F3, G3, H3, K3, sv3, st3, sv3', st3', T3⟩ := T3
    have c3 : w3.cell? ⟨gt, 3, none⟩ = some (.pointer (some ⟨gb, 0, none⟩)) := T3.blk.cell 3
    have cB : Calls Tryz.prog 56 #[.pointer (some ⟨gb, 0, none⟩), .int .u64 (pl : Nat)] w3 fun e w' => e = .returned (.tuple #[]) ∧ RLgPost (flushL L pl) (flushD L D pl) H3 K3 gb (.pointer (some ⟨gr, 0, none⟩)) w3 w' := rflush_any T3.b hk hG (by omega) pl hp64
    have HT3 := Lib.hid T3
    have HB3 := Lib.hid (And.intro hw3 b3)
    clear cA hp3 T3 b3 hw3 c2
    go_wp2_with fail
    refine cB.mono ?_
    rintro e w4 ⟨rfl, hp4⟩
    obtain ⟨T4, b4⟩ := HT3.out.postB HB3.out.1 hp4
    have HF := Lib.hid (FIN.out w3 w4 T4 HB3.out.2 b4)
    clear cB hp4 T4 b4 FIN c3
    go_wp2
    go_ret
    exact HF.out
  · subst z
    have hst : doZ L D x = (L, D) := by unfold doZ; rw [if_neg (by omega), if_pos hmk]
    have cr := treads_any ⟨F, G, H, K, sv, st, sv', st', T2.out⟩ hk hs62 pl hp64
    have FIN : Hid (∀ W, Below w2.heap.size w2 W → DoPost w0 L D x w gt ga gb gp gr (.returned (.bool true)) W) := Lib.hid fun W a => ⟨rfl, by rw [hst]; exact ⟨F, G, H, K, sv, st, sv', st', T2.out.below a⟩, HB02.out.trans (a.mono HW2.out)⟩
    clear hst hmk c2
    go_wp2_with fail
    refine cr.mono ?_
    rintro e w3 ⟨rfl, hb3⟩
    have HF := Lib.hid (FIN.out w3 hb3)
    clear cr hb3 FIN
    go_wp2
    go_ret
    exact HF.out
  · subst z
    have hst : doZ L D x = (markL L pl, markD L D pl) := by unfold doZ; rw [if_neg (by omega), if_neg (by omega), if_pos hmk, hpl]
    have cA : Calls Tryz.prog 57 #[.pointer (some ⟨ga, 0, none⟩), .int .u64 (pl : Nat)] w2 fun e w' => e = .returned (.tuple #[]) ∧ LgPost (markL L pl) (markD L D pl) F G ga (.pointer (some ⟨gp, 0, none⟩)) w2 w' := mark_any T2.out.a hk.ok hG hN2 pl hp64
    have FIN : Hid (∀ W W2, IsTwo w0 (markL L pl) (markD L D pl) (markL L pl) (markD L D pl) W2 gt ga gb (.pointer (some ⟨gp, 0, none⟩)) (.pointer (some ⟨gr, 0, none⟩)) → Below w0.heap.size w2 W → Below w0.heap.size W W2 → DoPost w0 L D x w gt ga gb gp gr (.returned (.bool true)) W2) := Lib.hid fun W W2 a b c => ⟨rfl, by rw [hst]; exact a, HB02.out.trans (b.trans c)⟩
    clear hst hmk
    go_wp2_with fail
    refine cA.mono ?_
    rintro e w3 ⟨rfl, hp3⟩
    obtain ⟨T3, b3⟩ := T2.out.postA HW2.out hp3
    have hw3 : w0.heap.size ≤ w3.heap.size := Nat.le_trans HW2.out b3.size
    obtain ⟨F3, G3, H3, K3, sv3, st3, sv3', st3', T3⟩ := T3
    have c3 : w3.cell? ⟨gt, 3, none⟩ = some (.pointer (some ⟨gb, 0, none⟩)) := T3.blk.cell 3
    have cB : Calls Tryz.prog 58 #[.pointer (some ⟨gb, 0, none⟩), .int .u64 (pl : Nat)] w3 fun e w' => e = .returned (.tuple #[]) ∧ RLgPost (markL L pl) (markD L D pl) H3 K3 gb (.pointer (some ⟨gr, 0, none⟩)) w3 w' := rmark_any T3.b hk hG hN2 pl hp64
    have HT3 := Lib.hid T3
    have HB3 := Lib.hid (And.intro hw3 b3)
    clear cA hp3 T3 b3 hw3 c2
    go_wp2_with fail
    refine cB.mono ?_
    rintro e w4 ⟨rfl, hp4⟩
    obtain ⟨T4, b4⟩ := HT3.out.postB HB3.out.1 hp4
    have HF := Lib.hid (FIN.out w3 w4 T4 HB3.out.2 b4)
    clear cB hp4 T4 b4 FIN c3
    go_wp2
    go_ret
    exact HF.out
  · subst z
    have hst : doZ L D x = (renewL L, renewD L D) := by unfold doZ; rw [if_neg (by omega), if_neg (by omega), if_neg (by omega), if_pos hmk]
    have cA : Calls Tryz.prog 59 #[.pointer (some ⟨ga, 0, none⟩)] w2 fun e w' => e = .returned (.tuple #[]) ∧ LgPost (renewL L) (renewD L D) F G ga (.pointer (some ⟨gp, 0, none⟩)) w2 w' := renew_any T2.out.a hk.ok hG hN2
    have FIN : Hid (∀ W W2, IsTwo w0 (renewL L) (renewD L D) (renewL L) (renewD L D) W2 gt ga gb (.pointer (some ⟨gp, 0, none⟩)) (.pointer (some ⟨gr, 0, none⟩)) → Below w0.heap.size w2 W → Below w0.heap.size W W2 → DoPost w0 L D x w gt ga gb gp gr (.returned (.bool true)) W2) := Lib.hid fun W W2 a b c => ⟨rfl, by rw [hst]; exact a, HB02.out.trans (b.trans c)⟩
    clear hst hmk
    go_wp2_with fail
    refine cA.mono ?_
    rintro e w3 ⟨rfl, hp3⟩
    obtain ⟨T3, b3⟩ := T2.out.postA HW2.out hp3
    have hw3 : w0.heap.size ≤ w3.heap.size := Nat.le_trans HW2.out b3.size
    obtain ⟨F3, G3, H3, K3, sv3, st3, sv3', st3', T3⟩ := T3
    have c3 : w3.cell? ⟨gt, 3, none⟩ = some (.pointer (some ⟨gb, 0, none⟩)) := T3.blk.cell 3
    have cB : Calls Tryz.prog 60 #[.pointer (some ⟨gb, 0, none⟩)] w3 fun e w' => e = .returned (.tuple #[]) ∧ RLgPost (renewL L) (renewD L D) H3 K3 gb (.pointer (some ⟨gr, 0, none⟩)) w3 w' := rrenew_any T3.b hk hG hN2
    have HT3 := Lib.hid T3
    have HB3 := Lib.hid (And.intro hw3 b3)
    clear cA hp3 T3 b3 hw3 c2
    go_wp2_with fail
    refine cB.mono ?_
    rintro e w4 ⟨rfl, hp4⟩
    obtain ⟨T4, b4⟩ := HT3.out.postB HB3.out.1 hp4
    have HF := Lib.hid (FIN.out w3 w4 T4 HB3.out.2 b4)
    clear cB hp4 T4 b4 FIN c3
    go_wp2
    go_ret
    exact HF.out
  · subst z
    have hst : doZ L D x = (L, D.halt ((x.at_ % 40 : Nat) : Int)) := by unfold doZ; rw [if_neg (by omega), if_neg (by omega), if_neg (by omega), if_neg (by omega), if_pos hmk]
    obtain ⟨hn, hhn⟩ : ∃ hn, x.at_ % 40 = hn := ⟨_, rfl⟩
    rw [hhn] at hst
    have hn40 : hn < 40 := by omega
    have HN63 : Hid ((hn : Int) < 9223372036854775808) := Lib.hid (by clear r1 r2 R1 R2; omega)
    have V1 : Hid ((x.at_ : Int) % 40 = (hn : Int)) := Lib.hid (by omega)
    have V2 : Hid (Int.tmod (x.at_ : Int) 40 = (hn : Int)) := Lib.hid (by rw [Int.tmod_eq_emod_of_nonneg (by omega)]; exact V1.out)
    have V3 : Hid (IntKind.i64.wrap (hn : Int) = (hn : Int)) := Lib.hid (by rw [IntKind.wrap_i64]; omega)
    have V4 : Hid (wrap64 (hn : Int) = (hn : Int) ∧ IntKind.u64.wrap (hn : Int) = (hn : Int)) := Lib.hid ⟨by unfold wrap64; omega, by rw [IntKind.wrap_u64]; omega⟩
    have bd := below_drew0 w2
    have cA := haltd_any (T2.out.below bd).a.dev (T2.out.below bd).a.hiF (hn : Int) HN63.out
    have FIN : Hid (∀ W W2, IsTwo w0 L (D.halt (hn : Int)) L (D.halt (hn : Int)) W2 gt ga gb (.pointer (some ⟨gp, 0, none⟩)) (.pointer (some ⟨gr, 0, none⟩)) → Below w0.heap.size w2.drew W → Below w0.heap.size W W2 → DoPost w0 L D x w gt ga gb gp gr (.returned (.bool true)) W2) := Lib.hid fun W W2 a b c => ⟨rfl, by rw [hst]; exact a, HB02.out.trans ((bd.mono HW2.out).trans (b.trans c))⟩
    obtain ⟨xa, hxa⟩ : ∃ xa, x.at_ = xa := ⟨_, rfl⟩
    rw [hxa] at V1 V2
    have CA : Hid (∀ W, Only (fun b => F b ∨ G b) w2 W → W.cell? ⟨gt, 0, none⟩ = some (.pointer (some ⟨gp, 0, none⟩)) ∧ W.cell? ⟨go, 14, none⟩ = some (.int .u64 (xa : Nat))) := Lib.hid fun W ho => ⟨(T2.out.blk.only ho T2.out.nA).cell 0, by rw [← hxa]; exact (KO.out.only ho ngA).cell 14⟩
    have KB : Hid (∀ W, Only (fun b => F b ∨ G b) w2 W → Blk W go 54 (wopA x m Af cf).toArray) := Lib.hid fun W ho => KO.out.only ho ngA
    have HXA := Lib.hid hxa
    have x0 := CA.out w2.drew (Only.of_below bd _)
    have v1 := V1.out
    have v2 := V2.out
    have v3 := V3.out
    obtain ⟨v4, v5⟩ := V4.out
    clear hst hmk c2 hhn hxa
    go_upto_region 18 with fail
    go_cut [] (fun wx => DevPost (D.halt (hn : Int)) F (.pointer (some ⟨gp, 0, none⟩)) w2.drew wx)
    case first =>
      go_wp2_with fail
      go_region_held3 (fun W => W.cell? ⟨gt, 0, none⟩ = some (.pointer (some ⟨gp, 0, none⟩)) ∧ W.cell? ⟨go, 14, none⟩ = some (.int .u64 (xa : Nat)))
        (first | with_reducible (exact x0) | with_reducible (exact x2) | fail)
        (first
          | ((with_reducible refine cA.mono ?_); rintro e w3 ⟨rfl, hp3⟩; have x2 := CA.out w3 ((Only.of_below bd (fun b => F b ∨ G b)).trans hp3.2 fun b z => .inl (.inl z)); have H3 := Lib.hid hp3)
          | fail)
      all_goals
        go_wp2
        go_meet
        case rel => exact H3.out
    case rest =>
      rename World => w3
      have hO3 : Only (fun b => F b ∨ G b) w2 w3 := (Only.of_below bd (fun b => F b ∨ G b)).trans hcut.2 fun b z => .inl (.inl z)
      have hko3 := KB.out w3 hO3
      obtain ⟨⟨F3, G3, sv3, st3, T3⟩, b3⟩ := (T2.out.below bd).postA2 (Nat.le_trans HW2.out bd.size) (LgPost.dev (T2.out.below bd).a hcut)
      have hw3 : w0.heap.size ≤ w3.heap.size := Nat.le_trans (Nat.le_trans HW2.out bd.size) b3.size
      have bd3 := below_drew0 w3
      have cB := rhalt_any (T3.below bd3).b.dev (hn : Int) HN63.out
      have CB : Hid (∀ W, Below w3.heap.size w3 W → W.cell? ⟨gt, 1, none⟩ = some (.pointer (some ⟨gr, 0, none⟩)) ∧ W.cell? ⟨go, 14, none⟩ = some (.int .u64 (xa : Nat))) := Lib.hid fun W hW => ⟨(T3.below hW).blk.cell 1, by rw [← HXA.out]; exact (hko3.below hW hko3.lt).cell 14⟩
      have x0 := CB.out w3.drew bd3
      have FIN2 : Hid (∀ W, RPost (D.halt (hn : Int)) H (.pointer (some ⟨gr, 0, none⟩)) w3.drew W → DoPost w0 L D x w gt ga gb gp gr (.returned (.bool true)) W) := Lib.hid fun W hp => by
        obtain ⟨T4, b4⟩ := (T3.below bd3).postB (Nat.le_trans hw3 bd3.size) (RLgPost.dev (T3.below bd3).b hp)
        exact FIN.out w3 W T4 b3 ((bd3.mono hw3).trans b4)
      have ngo3 : ¬ (H go ∨ K go) := ngB
      have CBX : Hid (∀ W, Only (fun b => H b ∨ K b) w3 W → W.cell? ⟨gt, 1, none⟩ = some (.pointer (some ⟨gr, 0, none⟩)) ∧ W.cell? ⟨go, 14, none⟩ = some (.int .u64 (xa : Nat))) := Lib.hid fun W ho => ⟨(T3.blk.only ho T3.nB).cell 1, by rw [← HXA.out]; exact (hko3.only ho ngo3).cell 14⟩
      clear cA hcut b3 hw3 hko3 hO3 FIN T3 CA KB
      go_upto_region 19 with fail
      have CB2 : Hid (∀ W, RPost (D.halt (hn : Int)) H (.pointer (some ⟨gr, 0, none⟩)) w3.drew W → W.cell? ⟨gt, 1, none⟩ = some (.pointer (some ⟨gr, 0, none⟩)) ∧ W.cell? ⟨go, 14, none⟩ = some (.int .u64 (xa : Nat))) := Lib.hid fun W hp => CBX.out W (((Only.of_below bd3 (fun b => H b ∨ K b)).trans hp.2 fun b z => .inl (.inl z)))
      go_wp2_with fail
      go_region_held3 (fun W => W.cell? ⟨gt, 1, none⟩ = some (.pointer (some ⟨gr, 0, none⟩)) ∧ W.cell? ⟨go, 14, none⟩ = some (.int .u64 (xa : Nat)))
        (first | with_reducible (exact x0) | with_reducible (exact x2) | fail)
        (first
          | ((with_reducible refine cB.mono ?_); rintro e w4 ⟨rfl, hp4⟩; have x2 := CB2.out w4 hp4; have H4 := Lib.hid (FIN2.out w4 hp4))
          | fail)
      all_goals
        clear FIN2 CB CB2 CBX cB x0 x2
        go_wp2
        go_ret
        exact H4.out
  · have hst : doZ L D x = ((appP L x.r x.spare).2, D) := by unfold doZ; rw [if_neg (by omega), if_neg (by omega), if_neg (by omega), if_neg (by omega), if_neg (by omega)]
    have bd := below_drew0 w2
    have hbs := hk.base
    have cA : Calls Tryz.prog 16 #[.pointer (some ⟨ga, 0, none⟩), .agg #[.int .u8 (x.r.kind : Nat), .int .u32 (x.r.txn : Nat), .int .u64 (x.r.prev : Nat), .int .u64 (x.r.next : Nat), .int .u32 (x.r.chg.page : Nat), .int .u16 (x.r.chg.slot : Nat), .bool x.r.chg.had, .bool x.r.chg.has, .slice m.cm.A1 x.r.chg.before.length m.cm.c1, .slice m.cm.A2 x.r.chg.after.length m.cm.c2, .slice m.A3 x.r.txns.length m.c3, .slice m.A4 x.r.pages.length m.c4], .int .u64 (x.spare : Nat)] w2.drew fun e w' => e = .returned (.tuple #[.int .u64 ((appP L x.r x.spare).1.1 : Nat), .int .u16 ((appP L x.r x.spare).1.2 : Nat)]) ∧ LgPost (appP L x.r x.spare).2 D F G ga (.pointer (some ⟨gp, 0, none⟩)) w2.drew w' :=
      append_any (T2.out.below bd).a x.r m B (RC.out.below (bd.mono (Nat.le_trans HB0.out.2 HW2.out))) (Nat.le_trans (Nat.le_trans HB0.out.2 HW2.out) bd.size) (by omega) hk.len hbs hk.ok.cnt x.spare HXV.out.spare
    have hcode := app_code L x.r x.spare
    have CBB : Hid (∀ W F3 G3 sv3 st3, Below w0.heap.size w2 W → TwoAt w0 (appP L x.r x.spare).2 D L D W F3 G3 H K gt ga gb (.pointer (some ⟨gp, 0, none⟩)) (.pointer (some ⟨gr, 0, none⟩)) sv3 st3 sv' st' → Calls Tryz.prog 64 #[.pointer (some ⟨gb, 0, none⟩), .agg #[.int .u8 (x.r.kind : Nat), .int .u32 (x.r.txn : Nat), .int .u64 (x.r.prev : Nat), .int .u64 (x.r.next : Nat), .int .u32 (x.r.chg.page : Nat), .int .u16 (x.r.chg.slot : Nat), .bool x.r.chg.had, .bool x.r.chg.has, .slice m.cm.A1 x.r.chg.before.length m.cm.c1, .slice m.cm.A2 x.r.chg.after.length m.cm.c2, .slice m.A3 x.r.txns.length m.c3, .slice m.A4 x.r.pages.length m.c4], .int .u64 (x.spare : Nat)] W.drew fun e w' => e = .returned (.tuple #[.int .u64 ((appP L x.r x.spare).1.1 : Nat), .int .i64 ((appP L x.r x.spare).1.2 : Nat)]) ∧ RLgPost (appP L x.r x.spare).2 D H K gb (.pointer (some ⟨gr, 0, none⟩)) W.drew w') := Lib.hid fun W F3 G3 sv3 st3 hW T3 => by
      have bd3 := below_drew0 W
      have hw3 : B ≤ W.heap.size := Nat.le_trans (Nat.le_trans HB0.out.2 HW2.out) hW.size
      exact rappend_any (T3.below bd3).b x.r m B ((RC.out.below (hW.mono HB0.out.2)).below (bd3.mono hw3)) (Nat.le_trans hw3 bd3.size) (by omega) hk.len hbs hk.ok.cnt x.spare HXV.out.spare
    have FIN : Hid (∀ W W2, IsTwo w0 (appP L x.r x.spare).2 D (appP L x.r x.spare).2 D W2 gt ga gb (.pointer (some ⟨gp, 0, none⟩)) (.pointer (some ⟨gr, 0, none⟩)) → Below w0.heap.size w2.drew W → Below w0.heap.size W W2 → DoPost w0 L D x w gt ga gb gp gr (.returned (.bool true)) W2) := Lib.hid fun W W2 a b c => ⟨rfl, by rw [hst]; exact a, HB02.out.trans ((bd.mono HW2.out).trans (b.trans c))⟩
    generalize (appP L x.r x.spare).2 = L' at *
    generalize (appP L x.r x.spare).1.1 = lsn at *
    generalize (appP L x.r x.spare).1.2 = code at *
    have CA : Hid (∀ W, Only (fun b => F b ∨ G b) w2 W → W.cell? ⟨gt, 2, none⟩ = some (.pointer (some ⟨ga, 0, none⟩)) ∧ W.cell? ⟨go, 1, none⟩ = some (.int .u8 (x.r.kind : Nat)) ∧ W.cell? ⟨go, 2, none⟩ = some (.int .u32 (x.r.txn : Nat)) ∧ W.cell? ⟨go, 3, none⟩ = some (.int .u64 (x.r.prev : Nat)) ∧ W.cell? ⟨go, 4, none⟩ = some (.int .u64 (x.r.next : Nat)) ∧ W.cell? ⟨go, 5, none⟩ = some (.int .u32 (x.r.chg.page : Nat)) ∧ W.cell? ⟨go, 6, none⟩ = some (.int .u16 (x.r.chg.slot : Nat)) ∧ W.cell? ⟨go, 7, none⟩ = some (.bool x.r.chg.had) ∧ W.cell? ⟨go, 8, none⟩ = some (.bool x.r.chg.has) ∧ W.cell? ⟨go, 9, none⟩ = some (.slice m.cm.A1 x.r.chg.before.length m.cm.c1) ∧ W.cell? ⟨go, 10, none⟩ = some (.slice m.cm.A2 x.r.chg.after.length m.cm.c2) ∧ W.cell? ⟨go, 11, none⟩ = some (.slice m.A3 x.r.txns.length m.c3) ∧ W.cell? ⟨go, 12, none⟩ = some (.slice m.A4 x.r.pages.length m.c4) ∧ W.cell? ⟨go, 13, none⟩ = some (.int .u64 (x.spare : Nat))) := Lib.hid fun W ho => by
      have k := KO.out.only ho ngA
      exact ⟨(T2.out.blk.only ho T2.out.nA).cell 2, k.cell 1, k.cell 2, k.cell 3, k.cell 4, k.cell 5, k.cell 6, k.cell 7, k.cell 8, k.cell 9, k.cell 10, k.cell 11, k.cell 12, k.cell 13⟩
    have KB : Hid (∀ W, Only (fun b => F b ∨ G b) w2 W → Blk W go 54 (wopA x m Af cf).toArray) := Lib.hid fun W ho => KO.out.only ho ngA
    have x0 := CA.out w2.drew (Only.of_below bd _)
    have V1 : Hid (IntKind.i64.wrap (code : Int) = (code : Int)) := Lib.hid (by rw [IntKind.wrap_i64]; omega)
    clear hst c2 hcode hbs
    rcases z with rfl | rfl | rfl | rfl
    all_goals
      clear hmk
      go_upto_region 3 with fail
      go_cut [10, 11] (fun v10 v11 wx => v10 = .int .u64 (lsn : Nat) ∧ v11 = .int .u16 (code : Nat) ∧ LgPost L' D F G ga (.pointer (some ⟨gp, 0, none⟩)) w2.drew wx)
      case first =>
        go_wp2_with fail
        go_region_held3 (fun W => W.cell? ⟨gt, 2, none⟩ = some (.pointer (some ⟨ga, 0, none⟩)) ∧ W.cell? ⟨go, 1, none⟩ = some (.int .u8 (x.r.kind : Nat)) ∧ W.cell? ⟨go, 2, none⟩ = some (.int .u32 (x.r.txn : Nat)) ∧ W.cell? ⟨go, 3, none⟩ = some (.int .u64 (x.r.prev : Nat)) ∧ W.cell? ⟨go, 4, none⟩ = some (.int .u64 (x.r.next : Nat)) ∧ W.cell? ⟨go, 5, none⟩ = some (.int .u32 (x.r.chg.page : Nat)) ∧ W.cell? ⟨go, 6, none⟩ = some (.int .u16 (x.r.chg.slot : Nat)) ∧ W.cell? ⟨go, 7, none⟩ = some (.bool x.r.chg.had) ∧ W.cell? ⟨go, 8, none⟩ = some (.bool x.r.chg.has) ∧ W.cell? ⟨go, 9, none⟩ = some (.slice m.cm.A1 x.r.chg.before.length m.cm.c1) ∧ W.cell? ⟨go, 10, none⟩ = some (.slice m.cm.A2 x.r.chg.after.length m.cm.c2) ∧ W.cell? ⟨go, 11, none⟩ = some (.slice m.A3 x.r.txns.length m.c3) ∧ W.cell? ⟨go, 12, none⟩ = some (.slice m.A4 x.r.pages.length m.c4) ∧ W.cell? ⟨go, 13, none⟩ = some (.int .u64 (x.spare : Nat)))
          (first | with_reducible (exact x0) | with_reducible (exact x2) | fail)
          (first
            | ((with_reducible refine cA.mono ?_); rintro e w3 ⟨rfl, hp3⟩; have x2 := CA.out w3 ((Only.of_below bd (fun b => F b ∨ G b)).trans (lgpost_only hp3) fun b z => .inl z); have H3 := Lib.hid hp3)
            | fail)
        all_goals
          go_wp2
          go_meet
          case rel => exact ⟨rfl, rfl, H3.out⟩
      case rest =>
        rename World => w3
        obtain ⟨rfl, rfl, hcut⟩ := hcut
        have hO3 : Only (fun b => F b ∨ G b) w2 w3 := (Only.of_below bd (fun b => F b ∨ G b)).trans (lgpost_only hcut) fun b z => .inl z
        have hko3 := KB.out w3 hO3
        obtain ⟨⟨F3, G3, sv3, st3, T3⟩, b3⟩ := (T2.out.below bd).postA2 (Nat.le_trans HW2.out bd.size) hcut
        have hw3 : w0.heap.size ≤ w3.heap.size := Nat.le_trans (Nat.le_trans HW2.out bd.size) b3.size
        have bd3 := below_drew0 w3
        have cB := CBB.out w3 F3 G3 sv3 st3 ((bd.mono HW2.out).trans b3) T3
        have ngo3 : ¬ (H go ∨ K go) := ngB
        have CBX : Hid (∀ W, Only (fun b => H b ∨ K b) w3 W → W.cell? ⟨gt, 3, none⟩ = some (.pointer (some ⟨gb, 0, none⟩)) ∧ W.cell? ⟨go, 1, none⟩ = some (.int .u8 (x.r.kind : Nat)) ∧ W.cell? ⟨go, 2, none⟩ = some (.int .u32 (x.r.txn : Nat)) ∧ W.cell? ⟨go, 3, none⟩ = some (.int .u64 (x.r.prev : Nat)) ∧ W.cell? ⟨go, 4, none⟩ = some (.int .u64 (x.r.next : Nat)) ∧ W.cell? ⟨go, 5, none⟩ = some (.int .u32 (x.r.chg.page : Nat)) ∧ W.cell? ⟨go, 6, none⟩ = some (.int .u16 (x.r.chg.slot : Nat)) ∧ W.cell? ⟨go, 7, none⟩ = some (.bool x.r.chg.had) ∧ W.cell? ⟨go, 8, none⟩ = some (.bool x.r.chg.has) ∧ W.cell? ⟨go, 9, none⟩ = some (.slice m.cm.A1 x.r.chg.before.length m.cm.c1) ∧ W.cell? ⟨go, 10, none⟩ = some (.slice m.cm.A2 x.r.chg.after.length m.cm.c2) ∧ W.cell? ⟨go, 11, none⟩ = some (.slice m.A3 x.r.txns.length m.c3) ∧ W.cell? ⟨go, 12, none⟩ = some (.slice m.A4 x.r.pages.length m.c4) ∧ W.cell? ⟨go, 13, none⟩ = some (.int .u64 (x.spare : Nat))) := Lib.hid fun W ho => by
          have k := hko3.only ho ngo3
          exact ⟨(T3.blk.only ho T3.nB).cell 3, k.cell 1, k.cell 2, k.cell 3, k.cell 4, k.cell 5, k.cell 6, k.cell 7, k.cell 8, k.cell 9, k.cell 10, k.cell 11, k.cell 12, k.cell 13⟩
        have x0 := CBX.out w3.drew (Only.of_below bd3 _)
        have FIN2 : Hid (∀ W, RLgPost L' D H K gb (.pointer (some ⟨gr, 0, none⟩)) w3.drew W → DoPost w0 L D x w gt ga gb gp gr (.returned (.bool true)) W) := Lib.hid fun W hp => by
          obtain ⟨T4, b4⟩ := (T3.below bd3).postB (Nat.le_trans hw3 bd3.size) hp
          exact FIN.out w3 W T4 b3 ((bd3.mono hw3).trans b4)
        clear cA hcut b3 hw3 hko3 hO3 FIN T3 CA KB CBB
        go_upto_region 4 with fail
        go_cut [12, 13] (fun v12 v13 wx => v12 = .int .u64 (lsn : Nat) ∧ v13 = .int .i64 (code : Nat) ∧ DoPost w0 L D x w gt ga gb gp gr (.returned (.bool true)) wx)
        case first =>
          go_wp2_with fail
          go_region_held3 (fun W => W.cell? ⟨gt, 3, none⟩ = some (.pointer (some ⟨gb, 0, none⟩)) ∧ W.cell? ⟨go, 1, none⟩ = some (.int .u8 (x.r.kind : Nat)) ∧ W.cell? ⟨go, 2, none⟩ = some (.int .u32 (x.r.txn : Nat)) ∧ W.cell? ⟨go, 3, none⟩ = some (.int .u64 (x.r.prev : Nat)) ∧ W.cell? ⟨go, 4, none⟩ = some (.int .u64 (x.r.next : Nat)) ∧ W.cell? ⟨go, 5, none⟩ = some (.int .u32 (x.r.chg.page : Nat)) ∧ W.cell? ⟨go, 6, none⟩ = some (.int .u16 (x.r.chg.slot : Nat)) ∧ W.cell? ⟨go, 7, none⟩ = some (.bool x.r.chg.had) ∧ W.cell? ⟨go, 8, none⟩ = some (.bool x.r.chg.has) ∧ W.cell? ⟨go, 9, none⟩ = some (.slice m.cm.A1 x.r.chg.before.length m.cm.c1) ∧ W.cell? ⟨go, 10, none⟩ = some (.slice m.cm.A2 x.r.chg.after.length m.cm.c2) ∧ W.cell? ⟨go, 11, none⟩ = some (.slice m.A3 x.r.txns.length m.c3) ∧ W.cell? ⟨go, 12, none⟩ = some (.slice m.A4 x.r.pages.length m.c4) ∧ W.cell? ⟨go, 13, none⟩ = some (.int .u64 (x.spare : Nat)))
            (first | with_reducible (exact x0) | with_reducible (exact x2) | fail)
            (first
              | ((with_reducible refine cB.mono ?_); rintro e w4 ⟨rfl, hp4⟩; have x2 := CBX.out w4 ((Only.of_below bd3 (fun b => H b ∨ K b)).trans (rlgpost_only hp4) fun b z => .inl z); have H4 := Lib.hid (FIN2.out w4 hp4))
              | fail)
          all_goals
            go_wp2
            go_meet
            case rel => exact ⟨rfl, rfl, H4.out⟩
        case rest =>
          rename World => w4
          obtain ⟨rfl, rfl, hcut⟩ := hcut
          clear FIN2 CBX cB x0
          have v1 := V1.out
          go_wp2
          go_ret
          exact hcut
end Go.Proofs.YtkganajbilnanaaGreat
