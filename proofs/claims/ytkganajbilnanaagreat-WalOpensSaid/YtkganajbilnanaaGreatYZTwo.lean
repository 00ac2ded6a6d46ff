/- wal's law WalOpens, plain: what the calls make of a log, whatever its device. Conditions: none; no program in sight. -/
import Derived.Test.YtkganajbilnanaaGreatYWOp
import Derived.Test.YtkganajbilnanaaGreatYRL
import Derived.Test.YtkganajbilnanaaGreatYRAlike
import Derived.Test.YtkganajbilnanaaGreatYWEn
import Derived.LaidEqlPtr
set_option linter.unusedVariables false
set_option linter.unusedSimpArgs false
namespace Go.Proofs.YtkganajbilnanaaGreat
open NumMath
def placeP (L : LogP) (a : Nat) : Nat := if a < 1000 ∧ a % 16 < L.starts.length then L.h.base + L.starts[a % 16]?.getD 0 else a
def doZ (L : LogP) (D : DevP) (x : WOp) : LogP × DevP :=
  if x.kind % 11 = 4 then (flushL L (placeP L x.at_), flushD L D (placeP L x.at_))
  else if x.kind % 11 = 5 then (L, D)
  else if x.kind % 11 = 6 then (markL L (placeP L x.at_), markD L D (placeP L x.at_))
  else if x.kind % 11 = 7 then (renewL L, renewD L D)
  else if x.kind % 11 = 10 then (L, D.halt ((x.at_ % 40 : Nat) : Int))
  else ((appP L x.r x.spare).2, D)
def doR (L : LogP) (rs : List RecP) (x : WOp) : List RecP :=
  if x.kind % 11 = 4 then rs
  else if x.kind % 11 = 5 then rs
  else if x.kind % 11 = 6 then rs
  else if x.kind % 11 = 7 then []
  else if x.kind % 11 = 10 then rs
  else if (appP L x.r x.spare).1.2 = 0 then rs ++ [x.r] else rs
structure Z8 (L : LogP) (D : DevP) (rs : List RecP) (i : Nat) : Prop where
  fit : L.fit rs
  strips : L.strips ≤ 62
  good : D.good (1000 + 1500 * i)
  base : L.h.base ≤ 9223372036854775808 + 7900 * i
section
variable {L : LogP} {D : DevP} {rs : List RecP} {i : Nat}
theorem Z8.len (h : Z8 L D rs i) : L.stream.length ≤ 7874 := by
  have h1 := h.fit.len
  have h2 := h.strips
  omega
theorem Z8.mono {j : Nat} (h : Z8 L D rs i) (hj : i ≤ j) : Z8 L D rs j := ⟨h.fit, h.strips, h.good.mono (by omega), by have := h.base; omega⟩
theorem fit_place (h : L.fit rs) {a : Nat} (ha : a < 18446744073709551616) : placeP L a < 18446744073709551616 := by
  unfold placeP
  split
  · rename_i q
    rw [List.getElem?_eq_getElem q.2]
    have h1 := h.recs.inn _ (List.getElem_mem q.2)
    have h2 := h.base
    show L.h.base + L.starts[a % 16] < _
    omega
  · exact ha
theorem fit_flush (h : L.fit rs) (lsn : Nat) : (flushL L lsn).fit rs := by
  have ho := flushL_ok h.ok lsn
  refine ⟨ho.strips, ho.fits, ho.area, ho.slot, ho.len, ho.lasts, ho.base, ⟨?_, ?_, h.recs.good⟩⟩
  · rw [flushL_stream]; exact h.recs.stream
  · rw [flushL_starts]; exact h.recs.starts
theorem fit_say (h : L.fit rs) : (sayL L).fit rs := by
  obtain ⟨f0, f1, f2, f3⟩ := h.fits
  exact ⟨h.strips, ⟨Nat.mod_lt _ (by decide), f1, f2, f3⟩, h.area, by have := h.slot; show 1 - L.slot ≤ 1; omega, h.len, h.lasts, h.base, ⟨h.recs.stream, h.recs.starts, h.recs.good⟩⟩
theorem fit_mark (h : L.fit rs) {lsn : Nat} (hl : lsn < 18446744073709551616) : (markL L lsn).fit rs := by
  have h1 := fit_flush h topN
  obtain ⟨f0, f1, f2, f3⟩ := h1.fits
  exact fit_say (L := markM L lsn) ⟨h1.strips, ⟨f0, f1, hl, f3⟩, h1.area, h1.slot, h1.len, h1.lasts, h1.base, ⟨h1.recs.stream, h1.recs.starts, h1.recs.good⟩⟩
theorem fit_renew (h : L.fit rs) : (renewL L).fit [] := by
  obtain ⟨f0, f1, f2, f3⟩ := h.fits
  have hb := h.base
  have ha := h.area
  exact fit_say (L := renewM L) ⟨h.strips, ⟨f0, hb, (by decide : (0 : Nat) < 18446744073709551616), by show 1 - L.h.area < 256; omega⟩, by show 1 - L.h.area < 2; omega, h.slot, Nat.zero_le _, Nat.zero_le _, by show L.h.base + L.stream.length + 0 < _; omega, ⟨rfl, rfl, fun r hr => by cases hr⟩⟩
theorem Z8.step (h : Z8 L D rs i) (hi : i ≤ 20) (x : WOp) (hf : x.r.Fits) (ha : x.at_ < 18446744073709551616) : Z8 (doZ L D x).1 (doZ L D x).2 (doR L rs x) (i + 1) := by
  have hst := h.strips
  have hb := h.base
  have hln := h.len
  unfold doZ doR
  split
  · refine ⟨fit_flush h.fit _, by rw [flushL_strips]; exact hst, (flushD_good h.fit.ok h.good _).mono (by omega), by rw [flushL_h]; omega⟩
  · split
    · exact h.mono (by omega)
    · split
      · refine ⟨fit_mark h.fit (fit_place h.fit ha), by show (flushL L topN).strips ≤ 62; rw [flushL_strips]; exact hst, (sayD_good (flushD_good h.fit.ok h.good topN)).mono (by omega), ?_⟩
        show (flushL L topN).h.base ≤ _
        rw [flushL_h]
        omega
      · split
        · refine ⟨fit_renew h.fit, hst, (sayD_good (makeP_good (flushD_good h.fit.ok h.good topN) _ L.strips [])).mono (by omega), ?_⟩
          show L.h.base + L.stream.length ≤ _
          omega
        · split
          · exact ⟨h.fit, hst, DevP.good.mono (D := D.halt ((x.at_ % 40 : Nat) : Int)) (N := 1000 + 1500 * i) h.good (by omega), by show L.h.base ≤ _; omega⟩
          · unfold appP
            cases hok : okR x.r with
            | false => simp only [if_true]; exact h.mono (by omega)
            | true =>
              simp only [Bool.true_eq_false, if_false]
              split
              · simp only [show (80 : Nat) ≠ 0 by decide, if_false]; exact h.mono (by omega)
              · rename_i hr
                simp only [if_true]
                have hl := h.fit.lasts
                have hs7 := h.fit.strips
                have hlen : (L.stream ++ encL x.r).length ≤ L.strips * 127 := by rw [List.length_append]; omega
                exact ⟨⟨hs7, h.fit.fits, h.fit.area, h.fit.slot, hlen, by show L.lasts ≤ (L.stream ++ encL x.r).length; rw [List.length_append]; omega, by show L.h.base + (L.stream ++ encL x.r).length < _; omega, h.fit.recs.snoc hok hf⟩, hst, h.good.mono (by omega), by show L.h.base ≤ _; omega⟩
end
theorem z8_open {D : DevP} (hs : D.small) (hG : D.good 0) (hz : D.size 0 ≤ 126) (hop : opens D = true) (hg : GoodR (openR D)) : Z8 (openL D) (openD D) (openR D) 0 := by
  have hst : 0 < (findP D).1.stamp := by
    unfold opens at hop
    rw [Bool.and_eq_true, decide_eq_true_iff, decide_eq_true_iff] at hop
    exact hop.2
  obtain ⟨hm, -⟩ := findP_may hs hst
  have hhi := hm.hi
  refine ⟨open_fit hs (by omega) hst hg, by show (D.size 0 - 2) / 2 ≤ 62; omega, (makeP_good hG _ _ _).mono (by omega), by show (findP D).1.base ≤ _; omega⟩
end Go.Proofs.YtkganajbilnanaaGreat
namespace Go.Proofs.YtkganajbilnanaaGreat
open Go.ChangeShapes Go.WideShapes Go.ChangeAt Go.RowKit
open NumMath
set_option maxRecDepth 20000
structure TwoAt (w0 : World) (LA : LogP) (DA : DevP) (LB : LogP) (DB : DevP) (w : World) (F G H K : Nat → Prop) (gt ga gb : Nat) (pd pe sv st sv' st' : Value) : Prop where
  blk : Blk w gt 34 #[pd, pe, .pointer (some ⟨ga, 0, none⟩), .pointer (some ⟨gb, 0, none⟩), .bool false]
  a : Lg LA DA w F G ga pd sv st
  b : RLg LB DB w H K gb pe sv' st'
  dis : ∀ x, F x ∨ G x → H x ∨ K x → False
  nA : ¬ (F gt ∨ G gt)
  nB : ¬ (H gt ∨ K gt)
  lo : ∀ x, (F x ∨ G x) ∨ (H x ∨ K x) → w0.heap.size ≤ x
  lot : w0.heap.size ≤ gt
def IsTwo (w0 : World) (LA : LogP) (DA : DevP) (LB : LogP) (DB : DevP) (w : World) (gt ga gb : Nat) (pd pe : Value) : Prop := ∃ F G H K sv st sv' st', TwoAt w0 LA DA LB DB w F G H K gt ga gb pd pe sv st sv' st'
section
variable {w0 w w' : World} {LA LB L' : LogP} {DA DB D' : DevP} {F G H K : Nat → Prop} {gt ga gb : Nat} {pd pe sv st sv' st' : Value}
theorem TwoAt.hi (h : TwoAt w0 LA DA LB DB w F G H K gt ga gb pd pe sv st sv' st') : ∀ x, (F x ∨ G x) ∨ (H x ∨ K x) → x < w.heap.size := fun x q => by
  rcases q with (q | q) | (q | q)
  · exact h.a.hiF x q
  · exact h.a.hiG x q
  · exact h.b.hiF x q
  · exact h.b.hiG x q
theorem TwoAt.below (h : TwoAt w0 LA DA LB DB w F G H K gt ga gb pd pe sv st sv' st') (hb : Below w.heap.size w w') : TwoAt w0 LA DA LB DB w' F G H K gt ga gb pd pe sv st sv' st' :=
  ⟨h.blk.below hb h.blk.lt, h.a.below hb, h.b.below hb, h.dis, h.nA, h.nB, h.lo, h.lot⟩
theorem IsTwo.below (h : IsTwo w0 LA DA LB DB w gt ga gb pd pe) (hb : Below w.heap.size w w') : IsTwo w0 LA DA LB DB w' gt ga gb pd pe := by
  obtain ⟨F, G, H, K, sv, st, sv', st', h⟩ := h
  exact ⟨F, G, H, K, sv, st, sv', st', h.below hb⟩
theorem Lg.only8 {L : LogP} {D : DevP} {S : Nat → Prop} (h : Lg L D w F G ga pd sv st) (ho : Only S w w') (hs : ∀ b, F b ∨ G b → ¬ S b) : Lg L D w' F G ga pd sv st :=
  ⟨h.dev.only ho fun b z => hs b (.inl z), h.log.only ho fun b z => hs b (.inr z), h.dis, fun b z => Nat.lt_of_lt_of_le (h.hiF b z) ho.size, fun b z => Nat.lt_of_lt_of_le (h.hiG b z) ho.size⟩
theorem RLg.only8 {L : LogP} {D : DevP} {S : Nat → Prop} (h : RLg L D w F G ga pd sv st) (ho : Only S w w') (hs : ∀ b, F b ∨ G b → ¬ S b) : RLg L D w' F G ga pd sv st :=
  ⟨h.dev.only ho fun b z => hs b (.inl z), h.log.only ho fun b z => hs b (.inr z), h.dis, fun b z => Nat.lt_of_lt_of_le (h.hiF b z) ho.size, fun b z => Nat.lt_of_lt_of_le (h.hiG b z) ho.size⟩
theorem TwoAt.postA (h : TwoAt w0 LA DA LB DB w F G H K gt ga gb pd pe sv st sv' st') (hw : w0.heap.size ≤ w.heap.size) (hp : LgPost L' D' F G ga pd w w') : IsTwo w0 L' D' LB DB w' gt ga gb pd pe ∧ Below w0.heap.size w w' := by
  obtain ⟨F', G', sv1, st1, q1, q2, q3, q4⟩ := hp
  have hb := q4.below hw fun b q => h.lo b (.inl q)
  have hs := q4.size
  have old : ∀ b, F' b ∨ G' b → b < w.heap.size → F b ∨ G b := fun b q z => by
    rcases q with q | q
    · rcases q2 b q with y | y
      · exact .inl y
      · omega
    · rcases q3 b q with y | y
      · exact .inr y
      · omega
  refine ⟨⟨F', G', H, K, sv1, st1, sv', st', h.blk.only q4 h.nA, q1, h.b.only8 q4 fun b z y => h.dis b y z, fun x q z => ?_, fun q => h.nA (old gt q h.blk.lt), h.nB, fun x q => ?_, h.lot⟩, hb⟩
  · exact h.dis x (old x q (h.hi x (.inr z))) z
  · rcases q with q | q
    · rcases Nat.lt_or_ge x w.heap.size with z | z
      · exact h.lo x (.inl (old x q z))
      · omega
    · exact h.lo x (.inr q)
theorem TwoAt.postB (h : TwoAt w0 LA DA LB DB w F G H K gt ga gb pd pe sv st sv' st') (hw : w0.heap.size ≤ w.heap.size) (hp : RLgPost L' D' H K gb pe w w') : IsTwo w0 LA DA L' D' w' gt ga gb pd pe ∧ Below w0.heap.size w w' := by
  obtain ⟨F', G', sv1, st1, q1, q2, q3, q4⟩ := hp
  have hb := q4.below hw fun b q => h.lo b (.inr q)
  have hs := q4.size
  have old : ∀ b, F' b ∨ G' b → b < w.heap.size → H b ∨ K b := fun b q z => by
    rcases q with q | q
    · rcases q2 b q with y | y
      · exact .inl y
      · omega
    · rcases q3 b q with y | y
      · exact .inr y
      · omega
  refine ⟨⟨F, G, F', G', sv, st, sv1, st1, h.blk.only q4 h.nB, h.a.only8 q4 fun b z y => h.dis b z y, q1, fun x q z => ?_, h.nA, fun q => h.nB (old gt q h.blk.lt), fun x q => ?_, h.lot⟩, hb⟩
  · exact h.dis x q (old x z (h.hi x (.inl q)))
  · rcases q with q | q
    · exact h.lo x (.inl q)
    · rcases Nat.lt_or_ge x w.heap.size with z | z
      · exact h.lo x (.inr (old x q z))
      · omega
theorem TwoAt.devs (h : TwoAt w0 LA DA LB DB w F G H K gt ga gb pd pe sv st sv' st') : DvR DA DB w0 w F H pd pe :=
  ⟨⟨h.a.dev, h.a.hiF, fun b q => h.lo b (.inl (.inl q))⟩, ⟨h.b.dev, h.b.hiF, fun b q => h.lo b (.inr (.inl q))⟩, fun x q z => h.dis x (.inl q) (.inl z)⟩
theorem dev8_any {hd : HeadP} {strips slot lasts gl : Nat} (k : Blk w gl 82 (logV hd pd strips slot sv st lasts)) : Calls Tryz.prog 47 #[.pointer (some ⟨gl, 0, none⟩)] w fun e w' => e = .returned pd ∧ w = w' := by
  have c1 : w.cell? ⟨gl, 4, none⟩ = some pd := k.cell 4
  clear k
  go_enter Tryz.func47, Tryz.ntmps47
  go_wp2
  go_ret
  exact ⟨rfl, rfl⟩
theorem same8_any {D : DevP} {F1 F2 : Nat → Prop} {gp gr : Nat} (h : DvR D D w0 w F1 F2 (.pointer (some ⟨gp, 0, none⟩)) (.pointer (some ⟨gr, 0, none⟩))) {N : Nat} (hG : D.good N) (hN : N ≤ 100000) :
    Calls Tryz.prog 10 #[.pointer (some ⟨gp, 0, none⟩), .pointer (some ⟨gr, 0, none⟩)] w fun e w' => e = .returned (.int .i64 1) ∧ Below w.heap.size w w' := by
  have c := alike_any h hG hN
  clear h hG
  go_enter Tryz.func10, Tryz.ntmps10
  go_wp2_with fail
  refine c.mono ?_
  rintro e w2 ⟨rfl, hb⟩
  go_wp2
  go_ret
  exact ⟨rfl, hb⟩
end
set_option maxHeartbeats 8000000 in
theorem talike_any {w0 w : World} {L : LogP} {D : DevP} {rs : List RecP} {gt ga gb gp gr N : Nat} (h : IsTwo w0 L D L D w gt ga gb (.pointer (some ⟨gp, 0, none⟩)) (.pointer (some ⟨gr, 0, none⟩))) (hk : L.fit rs) (hG : D.good N) (hN : N ≤ 100000) :
    Calls Tryz.prog 11 #[.pointer (some ⟨gt, 0, none⟩)] w fun e w' => e = .returned (.bool true) ∧ Below w.heap.size w w' := by
  obtain ⟨F, G, H, K, sv, st, sv', st', h⟩ := h
  obtain ⟨Av, cv, rfl, hcv, -⟩ := h.a.log.bytes
  obtain ⟨Aw, cw, rfl, hcw, -⟩ := h.b.log.bytes
  have hst := hk.strips
  have hln := hk.len
  have hla := hk.lasts
  have hbs := hk.base
  have HT : Hid (∀ W, Below w.heap.size w W → TwoAt w0 L D L D W F G H K gt ga gb (.pointer (some ⟨gp, 0, none⟩)) (.pointer (some ⟨gr, 0, none⟩)) (.slice Av L.stream.length cv) st (.slice Aw L.stream.length cw) st') := Lib.hid fun W hW => h.below hW
  have C1 : Hid (∀ W, Below w.heap.size w W → Calls Tryz.prog 20 #[.pointer (some ⟨ga, 0, none⟩)] W fun e w' => e = .returned (.int .u64 (L.h.base : Nat)) ∧ W = w') := Lib.hid fun W hW => base_any (HT.out W hW).a.log.blk
  have C2 : Hid (∀ W, Below w.heap.size w W → Calls Tryz.prog 40 #[.pointer (some ⟨gb, 0, none⟩)] W fun e w' => e = .returned (.int .u64 (L.h.base : Nat)) ∧ W = w') := Lib.hid fun W hW => rbase_any (HT.out W hW).b.log.blk
  have C3 : Hid (∀ W, Below w.heap.size w W → Calls Tryz.prog 17 #[.pointer (some ⟨ga, 0, none⟩)] W fun e w' => e = .returned (.int .u64 ((L.h.base + L.stream.length : Nat) : Int)) ∧ Drew W w') := Lib.hid fun W hW => end_any (HT.out W hW).a.log.blk hbs
  have C4 : Hid (∀ W, Below w.heap.size w W → Calls Tryz.prog 41 #[.pointer (some ⟨gb, 0, none⟩)] W fun e w' => e = .returned (.int .u64 ((L.h.base + L.stream.length : Nat) : Int)) ∧ Drew W w') := Lib.hid fun W hW => rend_any (HT.out W hW).b.log.blk hbs
  have C5 : Hid (∀ W, Below w.heap.size w W → Calls Tryz.prog 42 #[.pointer (some ⟨ga, 0, none⟩)] W fun e w' => e = .returned (.int .u64 ((L.h.base + L.lasts : Nat) : Int)) ∧ Drew W w') := Lib.hid fun W hW => lasts_any (HT.out W hW).a.log.blk (by omega)
  have C6 : Hid (∀ W, Below w.heap.size w W → Calls Tryz.prog 43 #[.pointer (some ⟨gb, 0, none⟩)] W fun e w' => e = .returned (.int .u64 ((L.h.base + L.lasts : Nat) : Int)) ∧ Drew W w') := Lib.hid fun W hW => rlasts_any (HT.out W hW).b.log.blk (by omega)
  have C7 : Hid (∀ W, Below w.heap.size w W → Calls Tryz.prog 44 #[.pointer (some ⟨ga, 0, none⟩)] W fun e w' => e = .returned (.int .u64 (L.h.check : Nat)) ∧ W = w') := Lib.hid fun W hW => check_any (HT.out W hW).a.log.blk
  have C8 : Hid (∀ W, Below w.heap.size w W → Calls Tryz.prog 45 #[.pointer (some ⟨gb, 0, none⟩)] W fun e w' => e = .returned (.int .u64 (L.h.check : Nat)) ∧ W = w') := Lib.hid fun W hW => rcheck_any (HT.out W hW).b.log.blk
  have C9 : Hid (∀ W, Below w.heap.size w W → Calls Tryz.prog 18 #[.pointer (some ⟨ga, 0, none⟩)] W fun e w' => e = .returned (.int .u64 ((L.strips * 127 - L.stream.length : Nat) : Int)) ∧ Drew W w') := Lib.hid fun W hW => Room_any (HT.out W hW).a.log.blk (by omega) hln
  have C10 : Hid (∀ W, Below w.heap.size w W → Calls Tryz.prog 46 #[.pointer (some ⟨gb, 0, none⟩)] W fun e w' => e = .returned (.int .u64 ((L.strips * 127 - L.stream.length : Nat) : Int)) ∧ Drew W w') := Lib.hid fun W hW => rRoom_any (HT.out W hW).b.log.blk (by omega) hln
  generalize L.h.base = n1 at *
  generalize n1 + L.stream.length = n2 at *
  generalize n1 + L.lasts = n3 at *
  generalize L.h.check = n4 at *
  generalize L.strips * 127 - L.stream.length = n5 at *
  have D1 : Hid (∀ W, Below w.heap.size w W → Calls Tryz.prog 10 #[.pointer (some ⟨gp, 0, none⟩), .pointer (some ⟨gr, 0, none⟩)] W fun e w' => e = .returned (.int .i64 1) ∧ Below W.heap.size W w') := Lib.hid fun W hW => same8_any (HT.out W hW).devs hG hN
  have D2 : Hid (∀ W, Below w.heap.size w W → Calls Tryz.prog 47 #[.pointer (some ⟨ga, 0, none⟩)] W fun e w' => e = .returned (.pointer (some ⟨gp, 0, none⟩)) ∧ W = w') := Lib.hid fun W hW => dev8_any (HT.out W hW).a.log.blk
  have CB : Hid (∀ W, Below w.heap.size w W → W.cell? ⟨gt, 0, none⟩ = some (.pointer (some ⟨gp, 0, none⟩)) ∧ W.cell? ⟨gt, 1, none⟩ = some (.pointer (some ⟨gr, 0, none⟩)) ∧ W.cell? ⟨gt, 2, none⟩ = some (.pointer (some ⟨ga, 0, none⟩)) ∧ W.cell? ⟨gt, 3, none⟩ = some (.pointer (some ⟨gb, 0, none⟩))) := Lib.hid fun W hW => by
    have k := (HT.out W hW).blk
    exact ⟨k.cell 0, k.cell 1, k.cell 2, k.cell 3⟩
  obtain ⟨-, -, c2, c3⟩ := CB.out w (Below.refl _ _)
  clear h hk hG hst hln hla hbs hcv hcw HT
  go_enter Tryz.func11, Tryz.ntmps11
  go_wp2_with fail
  refine (C1.out w (Below.refl _ _)).mono ?_
  rintro e w1 ⟨rfl, rfl⟩
  go_wp2_with fail
  refine (C2.out w (Below.refl _ _)).mono ?_
  rintro e w1 ⟨rfl, rfl⟩
  clear C1 C2 c2 c3
  go_wp2_with fail
  refine (C3.out w (Below.refl _ _)).mono ?_
  rintro e w3 ⟨rfl, d3⟩
  have b3 := d3.below w.heap.size
  go_wp2_with fail
  refine (C4.out w3 b3).mono ?_
  rintro e w4 ⟨rfl, d4⟩
  have b4 := b3.trans (d4.below w.heap.size)
  clear C3 C4 d3 d4 b3
  go_wp2_with fail
  refine (C5.out w4 b4).mono ?_
  rintro e w5 ⟨rfl, d5⟩
  have b5 := b4.trans (d5.below w.heap.size)
  go_wp2_with fail
  refine (C6.out w5 b5).mono ?_
  rintro e w6 ⟨rfl, d6⟩
  have b6 := b5.trans (d6.below w.heap.size)
  clear C5 C6 d5 d6 b4 b5
  go_wp2_with fail
  refine (C7.out w6 b6).mono ?_
  rintro e w7 ⟨rfl, rfl⟩
  go_wp2_with fail
  refine (C8.out w6 b6).mono ?_
  rintro e w7 ⟨rfl, rfl⟩
  clear C7 C8
  go_wp2_with fail
  refine (C9.out w6 b6).mono ?_
  rintro e w7 ⟨rfl, d7⟩
  have b7 := b6.trans (d7.below w.heap.size)
  go_wp2_with fail
  refine (C10.out w7 b7).mono ?_
  rintro e w8 ⟨rfl, d8⟩
  have b8 := b7.trans (d8.below w.heap.size)
  clear C9 C10 d7 d8 b6 b7
  go_upto_region 4 with fail
  have bd := b8.trans (below_drew8 w8 w.heap.size)
  obtain ⟨y0, y1, -, -⟩ := CB.out w8.drew bd
  have x0 := And.intro y0 y1
  have cs := D1.out w8.drew bd
  obtain ⟨j, hj⟩ := Option.isSome_iff_exists.1 (show (Tryz.prog.info? 67).isSome = true by kernel_rfl)
  have pe : ∀ W, (binOp .eql 27 (.pointer (some ⟨gp, 0, none⟩)) (.pointer (some ⟨gp, 0, none⟩))).run Tryz.prog W = .ok (.bool true) W := fun W => run_eql_ptr_same W _ Tryz.underlying27 hj
  clear hj
  go_region_held3 (fun W => W.cell? ⟨gt, 0, none⟩ = some (.pointer (some ⟨gp, 0, none⟩)) ∧ W.cell? ⟨gt, 1, none⟩ = some (.pointer (some ⟨gr, 0, none⟩)))
    (first | with_reducible (exact x0) | with_reducible (exact x2) | fail)
    (first
      | ((with_reducible refine cs.mono ?_); rintro e w9 ⟨rfl, hb9⟩; have b9 := bd.trans (hb9.mono bd.size); have x2 := (show _ ∧ _ from ⟨(CB.out w9 b9).1, (CB.out w9 b9).2.1⟩); have cd := D2.out w9 b9)
      | ((with_reducible refine cd.mono ?_); rintro e w10 ⟨rfl, rfl⟩)
      | fail)
  all_goals
    go_wp2
    go_ret
    exact ⟨rfl, b9⟩
end Go.Proofs.YtkganajbilnanaaGreat
