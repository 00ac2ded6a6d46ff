/- The law WalOpens. Conditions: none. -/
import Derived.Test.YtkganajbilnanaaGreatYZDo
import Derived.Test.YtkganajbilnanaaGreatYWArgs
import Derived.Test.YtkganajbilnanaaGreatYRZ
import Derived.Test.YtkganajbilnanaaGreatYROpen
set_option linter.unusedVariables false
set_option linter.unusedSimpArgs false
namespace Go.Proofs.YtkganajbilnanaaGreat
open Go.ChangeShapes Go.WideShapes Go.ChangeAt Go.RowKit
open NumMath
set_option maxRecDepth 20000
theorem size_op8 : (Tryz.prog.info? 54).map (·.size) = some 16 := by kernel_rfl
theorem heavy8_no {size : Int} {l : List WOp} (h : heavy8 size l = false) : size ≤ 120 ∧ l.length ≤ 40 := by
  unfold heavy8 at h
  simp only [Bool.or_eq_false_iff, decide_eq_false_iff_not] at h
  omega
theorem two_made {w0 w4 w5 w6 : World} {L : LogP} {D : DevP} {F1 F2 : Nat → Prop} {gt ga gb : Nat} {pd pe : Value} (h0 : w0.heap.size ≤ w4.heap.size) (lo1 : ∀ b, F1 b → w0.heap.size ≤ b) (lo2 : ∀ b, F2 b → w0.heap.size ≤ b) (hi1 : ∀ b, F1 b → b < w4.heap.size) (hi2 : ∀ b, F2 b → b < w4.heap.size) (dis : ∀ b, F1 b → F2 b → False)
    (kt : Blk w4 gt 34 #[pd, pe, .pointer none, .pointer none, .bool false]) (ht1 : ¬ F1 gt) (ht2 : ¬ F2 gt) (hlt : w0.heap.size ≤ gt) (hA : LgPost L D F1 (fun _ => False) ga pd w4 w5) (hB : RLgPost L D F2 (fun _ => False) gb pe w5 w6) :
    Blk w6 gt 34 #[pd, pe, .pointer none, .pointer none, .bool false] ∧ IsTwo w0 L D L D ((w6.setCell ⟨gt, 2, none⟩ (.pointer (some ⟨ga, 0, none⟩))).setCell ⟨gt, 3, none⟩ (.pointer (some ⟨gb, 0, none⟩))) gt ga gb pd pe ∧ Below w0.heap.size w4 ((w6.setCell ⟨gt, 2, none⟩ (.pointer (some ⟨ga, 0, none⟩))).setCell ⟨gt, 3, none⟩ (.pointer (some ⟨gb, 0, none⟩))) := by
  obtain ⟨F, G, sv, st, a1, a2, a3, a4⟩ := hA
  obtain ⟨H, K, sv', st', b1, b2, b3, b4⟩ := hB
  have s4 := a4.size
  have s5 := b4.size
  have hgt := kt.lt
  have oA : Only F1 w4 w5 := a4.mono fun b q => .inl (q.elim id fun z => z.elim)
  have oB : Only F2 w5 w6 := b4.mono fun b q => .inl (q.elim id fun z => z.elim)
  have hFG : ∀ b, F b ∨ G b → F1 b ∨ (w4.heap.size ≤ b ∧ b < w5.heap.size) := fun b q => by
    rcases q with q | q
    · exact a2 b q
    · exact .inr ((a3 b q).elim (fun z => z.elim) id)
  have hHK : ∀ b, H b ∨ K b → F2 b ∨ (w5.heap.size ≤ b ∧ b < w6.heap.size) := fun b q => by
    rcases q with q | q
    · exact b2 b q
    · exact .inr ((b3 b q).elim (fun z => z.elim) id)
  have nFG2 : ∀ b, F b ∨ G b → ¬ F2 b := fun b q z => by
    rcases hFG b q with y | y
    · exact dis b y z
    · have := hi2 b z
      omega
  have kt6 := (kt.only oA ht1).only oB ht2
  have a6 := a1.only8 oB nFG2
  have nA : ¬ (F gt ∨ G gt) := fun q => by
    rcases hFG gt q with y | y
    · exact ht1 y
    · omega
  have nB : ¬ (H gt ∨ K gt) := fun q => by
    rcases hHK gt q with y | y
    · exact ht2 y
    · omega
  have oS : Only (fun b => b = gt) w6 ((w6.setCell ⟨gt, 2, none⟩ (.pointer (some ⟨ga, 0, none⟩))).setCell ⟨gt, 3, none⟩ (.pointer (some ⟨gb, 0, none⟩))) := ((Only.refl (fun b => b = gt) w6).setCell (p := ⟨gt, 2, none⟩) (.inl rfl) _).setCell (p := ⟨gt, 3, none⟩) (.inl rfl) _
  refine ⟨kt6, ⟨F, G, H, K, sv, st, sv', st', (kt6.set_ 2 _).set_ 3 _, a6.only8 oS fun b q e => nA (by rw [← e]; exact q), b1.only8 oS fun b q e => nB (by rw [← e]; exact q), fun x q z => ?_, nA, nB, fun x q => ?_, hlt⟩, ?_⟩
  · rcases hFG x q with y | y
    · rcases hHK x z with u | u
      · exact dis x y u
      · have := hi1 x y
        omega
    · rcases hHK x z with u | u
      · have := hi2 x u
        omega
      · omega
  · rcases q with q | q
    · rcases hFG x q with y | y
      · exact lo1 x y
      · omega
    · rcases hHK x q with y | y
      · exact lo2 x y
      · omega
  · have c1 := oA.below h0 lo1
    have c2 := c1.trans (oB.below (Nat.le_trans h0 s4) lo2)
    exact c2.trans (oS.below (Nat.le_trans (Nat.le_trans h0 s4) s5) fun b e => by rw [e]; exact hlt)
set_option maxHeartbeats 16000000 in
theorem walOpens_walk (v0 v1 : Value) (w : World) (w0 : IsBlocks w v0) (w1 : IsOps8 w v1) :
    Calls Tryz.prog 3 #[v0, v1] w fun e w' => e = .returned (.bool true) ∧ Below w.heap.size w w' := by
  obtain ⟨A, c, Lb, la, rfl, -, -, hAt, hRd⟩ := w0
  obtain ⟨A', c', l, rfl, hl⟩ := w1
  have ch := heavy8_any (la.length : Int) A' c' l w.heap.size w hl (Nat.le_refl _)
  obtain ⟨n, hn⟩ : ∃ n, l.length = n := ⟨_, rfl⟩
  obtain ⟨na, hna⟩ : ∃ n, la.length = n := ⟨_, rfl⟩
  rw [hn] at ch
  rw [hna] at ch
  rw [hn, hna]
  obtain ⟨hv, hhv⟩ : ∃ q, heavy8 (na : Int) l = q := ⟨_, rfl⟩
  rw [hhv] at ch
  have HL := Lib.hid hl
  have HN := Lib.hid hn
  have HNA := Lib.hid hna
  have HHV := Lib.hid hhv
  have HAT := Lib.hid (And.intro hAt hRd)
  clear hn hhv hl hAt hRd hna
  go_enter Tryz.func3, Tryz.ntmps3
  cases hv with
  | true =>
    go_wp2_with fail
    refine ch.mono ?_
    rintro e w2 ⟨rfl, hb2⟩
    go_wp2_with fail
    refine (kn_any w2).mono ?_
    rintro e w3 ⟨rfl, hb3⟩
    go_wp2
    go_ret
    exact ⟨rfl, hb2.trans (hb3.mono hb2.size)⟩
  | false =>
    go_wp2_with fail
    refine ch.mono ?_
    rintro e w4 ⟨rfl, hb4⟩
    clear ch
    go_wp2_with fail
    refine (kn_any w4).mono ?_
    rintro e w5 ⟨rfl, hb5⟩
    have hb5 := hb4.trans (hb5.mono hb4.size)
    have HB5 := Lib.hid hb5
    clear hb4 hb5
    obtain ⟨hs120, hl40⟩ := heavy8_no HHV.out
    have hna120 : na ≤ 120 := by omega
    have nilAt : ∀ (W : World), At W w.heap.size none [] ∧ Reads W w.heap.size [] ([] : List (List Nat)) := fun W => ⟨fun j hj => absurd hj (by simp), rfl, fun j l h => by simp at h⟩
    have cdo : Hid (∀ W, Below w.heap.size w W → Calls Tryz.prog 6 #[.slice A na c, .slice none 0 0] W (DOpenPost la [] W)) := Lib.hid fun W hW => by
      have := dopen_any A none c 0 Lb [] la [] w.heap.size W (HAT.out.1.below hW) (HAT.out.2.below hW) (nilAt W).1 (nilAt W).2 hW.size (by rw [HNA.out]; omega) (by simp)
      rw [HNA.out] at this
      exact this
    have cro : Hid (∀ W, Below w.heap.size w W → Calls Tryz.prog 7 #[.slice A na c, .slice none 0 0] W (ROpenPost la [] W)) := Lib.hid fun W hW => by
      have := ropen_any A none c 0 Lb [] la [] w.heap.size W (HAT.out.1.below hW) (HAT.out.2.below hW) (nilAt W).1 (nilAt W).2 hW.size (by rw [HNA.out]; omega) (by simp)
      rw [HNA.out] at this
      exact this
    clear hs120 hl40 HHV HAT nilAt
    go_wp2_with fail
    refine (cdo.out w5 HB5.out).mono ?_
    rintro e w6 ⟨d1, d2, hb6⟩
    have hb6' := HB5.out.trans (hb6.mono HB5.out.size)
    by_cases hok : okL la
    rotate_left
    · obtain rfl := d2 (fun z => hok z.1)
      clear d1 d2 cdo
      go_wp2_with fail
      refine (cro.out w6 hb6').mono ?_
      rintro e w7 ⟨-, r2, hb7⟩
      obtain rfl := r2 (fun z => hok z.1)
      have hb7' := hb6'.trans (hb7.mono hb6'.size)
      have HF := Lib.hid (hb7'.trans ((below_alloc w7 (.cells #[.pointer none, .pointer none, .pointer none, .pointer none, .bool false] 34)).mono hb7'.size))
      clear r2 hb6 hb6' hb7 hb7' cro
      go_wp2
      go_ret
      exact ⟨rfl, HF.out⟩
    · have hokn : okL ([] : List (List Nat)) := fun l hl => by cases hl
      obtain ⟨p, rfl, hd1⟩ := d1 ⟨hok, hokn⟩
      obtain ⟨gp, _, _, _, rfl, -⟩ := id hd1
      clear d1 d2 cdo
      go_wp2_with fail
      refine (cro.out w6 hb6').mono ?_
      rintro e w7 ⟨r1, -, hb7⟩
      obtain ⟨p, rfl, hd2⟩ := r1 ⟨hok, hokn⟩
      obtain ⟨gr, _, _, _, rfl, -⟩ := id hd2
      have hb7' := hb6'.trans (hb7.mono hb6'.size)
      have hG0 : (openP la []).good 0 := good_open hok hokn (by rw [HNA.out]; omega) (by simp)
      have hsz : (openP la []).size 0 = na := by
        show (lastS la).length = na
        unfold lastS
        rw [List.length_map]
        exact HNA.out
      generalize openP la [] = D at *
      have hsm := hd1.small
      have ba := below_alloc w7 (.cells #[.pointer (some ⟨gp, 0, none⟩), .pointer (some ⟨gr, 0, none⟩), .pointer none, .pointer none, .bool false] 34)
      have kt := Blk.new w7 34 #[.pointer (some ⟨gp, 0, none⟩), .pointer (some ⟨gr, 0, none⟩), .pointer none, .pointer none, .bool false]
      have hD1 := (hd1.below hb7).below (ba.mono (Nat.le_refl _))
      have hD2 := hd2.below ba
      have s5 := HB5.out.size
      have s6 := hb6.size
      have s7 := hb7.size
      have s8 := ba.size
      have hb8' := hb7'.trans (ba.mono hb7'.size)
      obtain ⟨gt, hgt⟩ : ∃ gt, w7.heap.size = gt := ⟨_, rfl⟩
      have F1 : Hid ((∀ b, newB w5 w6 b → w.heap.size ≤ b) ∧ (∀ b, newB w6 w7 b → w.heap.size ≤ b) ∧ (∀ b, newB w5 w6 b → b < w7.heap.size) ∧ (∀ b, newB w6 w7 b → b < w7.heap.size) ∧ (∀ b, newB w5 w6 b → newB w6 w7 b → False) ∧ ¬ newB w5 w6 gt ∧ ¬ newB w6 w7 gt ∧ w.heap.size ≤ gt) := Lib.hid (by
        unfold newB
        refine ⟨fun b q => by omega, fun b q => by omega, fun b q => by omega, fun b q => by omega, fun b q z => by omega, fun q => by omega, fun q => by omega, by omega⟩)
      rw [hgt] at kt F1
      have hbz := ba.size
      have HKT := Lib.hid kt
      have HB7 := Lib.hid hb7'
      have hgl8 := kt.lt
      clear r1 hd1 hd2 hb6 hb6' hb7 cro hok hokn s5 s6 s7 s8 hb7'
      go_upto_region 6 with fail
      generalize World.alloc w7 _ = w8 at *
      try rw [hgt]
      have hi8 : ∀ b, (newB w5 w6 b → b < w8.heap.size) ∧ (newB w6 w7 b → b < w8.heap.size) := fun b => ⟨fun q => by have := F1.out.2.2.1 b q; omega, fun q => by have := F1.out.2.2.2.1 b q; omega⟩
      have HGT := Lib.hid hgt
      clear kt hgt ba
      generalize newB w5 w6 = FA at *
      generalize newB w6 w7 = FB at *
      have HB8 := Lib.hid hb8'
      have HD1 := Lib.hid hD1
      have HD2 := Lib.hid hD2
      have cop := open_any hD1 (fun b q => (hi8 b).1 q) hG0 (by omega) (by rw [hsz]; omega)
      have c0 : w8.cell? ⟨gt, 0, none⟩ = some (.pointer (some ⟨gp, 0, none⟩)) := HKT.out.cell 0
      clear hD1 hD2 hb8'
      go_wp2_with fail
      refine cop.mono ?_
      rintro e w9 hpost
      clear cop c0
      rcases hpost with ⟨hop, rfl, hb9⟩ | ⟨hop, hgood, ga, rfl, hLp⟩
      · have hD9 := HD2.out.below hb9
        have hs9 := hb9.size
        have cro := ropen8_any hD9 (fun b q => Nat.lt_of_lt_of_le ((hi8 b).2 q) hs9) hG0 (by omega) (by rw [hsz]; omega) hsm (fun q => by rw [hop] at q; cases q)
        have c1 : w9.cell? ⟨gt, 1, none⟩ = some (.pointer (some ⟨gr, 0, none⟩)) := (HKT.out.below hb9 hgl8).cell 1
        have HB9 := Lib.hid hb9
        clear hD9 hb9
        go_wp2_with fail
        refine cro.mono ?_
        rintro e w10 hpost
        rcases hpost with ⟨-, rfl, hb10⟩ | ⟨hop', -⟩
        rotate_left
        · rw [hop] at hop'
          cases hop'
        have hb10' := HB9.out.trans (hb10.mono HB9.out.size)
        have HB10 := Lib.hid hb10'
        clear cro c1 hb10
        go_upto_region 9 with fail
        have bd := hb10'.trans ((below_drew0 w10).mono hb10'.size)
        have CC : Hid (∀ W, Below w8.heap.size w8 W → W.cell? ⟨gt, 0, none⟩ = some (.pointer (some ⟨gp, 0, none⟩)) ∧ W.cell? ⟨gt, 1, none⟩ = some (.pointer (some ⟨gr, 0, none⟩))) := Lib.hid fun W hW => ⟨(HKT.out.below hW hgl8).cell 0, (HKT.out.below hW hgl8).cell 1⟩
        have x0 := CC.out w10.drew bd
        have csm := same8_any (w0 := w) (w := w10.drew) (F1 := FA) (F2 := FB) (gp := gp) (gr := gr) ⟨⟨HD1.out.below bd, fun b q => Nat.lt_of_lt_of_le ((hi8 b).1 q) bd.size, F1.out.1⟩, ⟨HD2.out.below bd, fun b q => Nat.lt_of_lt_of_le ((hi8 b).2 q) bd.size, F1.out.2.1⟩, F1.out.2.2.2.2.1⟩ hG0 (by omega)
        go_region_held3 (fun W => W.cell? ⟨gt, 0, none⟩ = some (.pointer (some ⟨gp, 0, none⟩)) ∧ W.cell? ⟨gt, 1, none⟩ = some (.pointer (some ⟨gr, 0, none⟩)))
          (first | with_reducible (exact x0) | with_reducible (exact x2) | fail)
          (first
            | ((with_reducible refine csm.mono ?_); rintro e w11 ⟨rfl, hb11⟩; have b11 := bd.trans (hb11.mono bd.size); have x2 := CC.out w11 b11)
            | fail)
        all_goals
          have HF := Lib.hid (HB8.out.trans (b11.mono HB8.out.size))
          clear b11 hb11 csm x0 x2 CC bd hb10'
          go_wp2
          go_ret
          exact ⟨rfl, HF.out⟩
      · obtain ⟨hs9, oA⟩ : w8.heap.size ≤ w9.heap.size ∧ Only FA w8 w9 := by
          have := lgpost_only hLp
          exact ⟨this.size, this.mono fun b q => .inl (q.elim id fun z => z.elim)⟩
        have hD9 := HD2.out.only oA fun b q z => F1.out.2.2.2.2.1 b z q
        have cro := ropen8_any hD9 (fun b q => Nat.lt_of_lt_of_le ((hi8 b).2 q) hs9) hG0 (by omega) (by rw [hsz]; omega) hsm (fun _ => hgood)
        have c1 : w9.cell? ⟨gt, 1, none⟩ = some (.pointer (some ⟨gr, 0, none⟩)) := (HKT.out.only oA F1.out.2.2.2.2.2.1).cell 1
        have HLP := Lib.hid hLp
        have hz8 := z8_open hsm hG0 (by rw [hsz]; omega) hop hgood
        clear hD9 hLp hs9 oA hgood hsm hsz
        go_wp2_with fail
        refine cro.mono ?_
        rintro e w10 hpost
        rcases hpost with ⟨hop', -⟩ | ⟨-, gb, rfl, hRp⟩
        · rw [hop] at hop'
          cases hop'
        have hlt8 : w.heap.size ≤ w8.heap.size := HB8.out.size
        obtain ⟨kt10, T, hbT⟩ := two_made (w0 := w) hlt8 F1.out.1 F1.out.2.1 (fun b q => (hi8 b).1 q) (fun b q => (hi8 b).2 q) F1.out.2.2.2.2.1 HKT.out F1.out.2.2.2.2.2.1 F1.out.2.2.2.2.2.2.1 F1.out.2.2.2.2.2.2.2 HLP.out hRp
        have z2 : w10.cell? ⟨gt, 2, none⟩ = some (.pointer none) := kt10.cell 2
        have z3 : w10.cell? ⟨gt, 3, none⟩ = some (.pointer none) := kt10.cell 3
        have y2 : w10.frozen? ⟨gt, 2, none⟩ = false := kt10.frozen 2
        have y3 : w10.frozen? ⟨gt, 3, none⟩ = false := kt10.frozen 3
        obtain ⟨wT, hwT⟩ : ∃ wT, (w10.setCell ⟨gt, 2, none⟩ (.pointer (some ⟨ga, 0, none⟩))).setCell ⟨gt, 3, none⟩ (.pointer (some ⟨gb, 0, none⟩)) = wT := ⟨_, rfl⟩
        rw [hwT] at T hbT
        have HWT := Lib.hid hwT
        have HT := Lib.hid T
        have HBT := Lib.hid (HB8.out.trans hbT)
        generalize openL D = L0 at *
        generalize openD D = D0 at *
        generalize openR D = rs0 at *
        have HZ := Lib.hid hz8
        clear cro c1 hRp HLP kt10 T hbT hwT hz8 hG0 hop HKT HD1 HD2 hi8 F1 HB8 hlt8
        go_upto_region 12 with fail
        rw [show _ = wT from HWT.out]
        clear z2 z3 y2 y3 HWT
        have cal := talike_any HT.out HZ.out.fit HZ.out.good (by omega)
        go_wp2_with fail
        refine cal.mono ?_
        rintro e w11 ⟨rfl, hb11⟩
        have T11 := HT.out.below hb11
        have crd := treads_any T11 HZ.out.fit HZ.out.strips 0 (by decide)
        clear cal
        go_wp2_with fail
        refine crd.mono ?_
        rintro e w12 ⟨rfl, hb12⟩
        have T12 := T11.below hb12
        have HT12 := Lib.hid T12
        have HB12 : Hid (Below w.heap.size w w12) := Lib.hid ((HBT.out.trans (hb11.mono HBT.out.size)).trans (hb12.mono (Nat.le_trans HBT.out.size hb11.size)))
        clear crd T11 T12 hb11 hb12 HT HBT
        go_wp2_with fail
        go_loopw [12, 13, 14] (fun v12 _ _ wr => ∃ (i : Nat) (L : LogP) (D : DevP) (rs : List RecP), i ≤ 10 ∧ i ≤ n ∧ v12 = .int .i64 (i : Nat) ∧ IsTwo w L D L D wr gt ga gb (.pointer (some ⟨gp, 0, none⟩)) (.pointer (some ⟨gr, 0, none⟩)) ∧ Z8 L D rs i ∧ Below w.heap.size w wr) (fun v12 _ _ _ => 10 - (intOf v12).toNat)
        case atStart => exact ⟨0, L0, D0, rs0, by omega, by omega, rfl, HT12.out, HZ.out, HB12.out⟩
        case round =>
          obtain ⟨i, L, D, rs, hi10, hin, rfl, hT, hZ, hb⟩ := hrel
          clear HT12 HZ HB12
          rcases Nat.lt_or_ge i n with hlt | hge
          rotate_left
          · have e1 : decide ((i : Int) < (n : Int)) = false := by rw [decide_eq_false_iff_not]; omega
            clear hT hZ
            go_wp2
            go_ret
            exact ⟨rfl, hb⟩
          have e1 : decide ((i : Int) < (n : Int)) = true := by rw [decide_eq_true_iff]; omega
          rcases Nat.lt_or_ge i 10 with hlt2 | hge2
          rotate_left
          · have e2 : decide ((i : Int) < 10) = false := by rw [decide_eq_false_iff_not]; omega
            clear hT hZ
            go_wp2
            go_ret
            exact ⟨rfl, hb⟩
          have e2 : decide ((i : Int) < 10) = true := by rw [decide_eq_true_iff]; omega
          have e3 : (0 : Int) ≤ (i : Int) := by omega
          have e4 : (i : Int) < (n : Int) := by omega
          have hil : i < l.length := by rw [HN.out]; exact hlt
          obtain ⟨bq, oq, m, Af, cf, rfl, hbB, hcel, hv⟩ := (HL.out.below hb) i hil
          have hxx : ∃ x, l[i] = x := ⟨_, rfl⟩
          obtain ⟨x, hx⟩ := hxx
          rw [hx] at hcel hv
          have ck : wr.cell? ⟨bq, oq + i * 16, none⟩ = some (.int .u8 (x.kind : Nat)) := hcel 0 _ rfl
          obtain ⟨mk, hmk⟩ : ∃ mk, x.kind % 11 = mk := ⟨_, rfl⟩
          have R1 : Hid ((x.kind : Int) % 11 = (mk : Int)) := Lib.hid (by omega)
          have R2 : Hid (Int.tmod (x.kind : Int) 11 = (mk : Int)) := Lib.hid (by rw [Int.tmod_eq_emod_of_nonneg (by omega)]; exact R1.out)
          have hkb := hv.kind
          have R3 : Hid (IntKind.u8.wrap (mk : Int) = (mk : Int) ∧ wrap64 (mk : Int) = (mk : Int)) := Lib.hid ⟨by rw [IntKind.wrap_u8]; omega, by unfold wrap64; omega⟩
          have ldO : (Instr.loadAt 54 (.pointer (some ⟨bq, oq + i * 16, none⟩))).run Tryz.prog wr = .ok (.agg (wopA x m Af cf).toArray) wr :=
            run_load_cells 54 (wopA x m Af cf) _ hcel Tryz.underlying54 rfl size_op8
          have HMK := Lib.hid hmk
          have HV := Lib.hid hv
          clear hcel hx hmk hv hil
          have r1 := R1.out
          have r2 := R2.out
          obtain ⟨r3, r4⟩ := R3.out
          by_cases h8 : mk = 8
          · subst h8
            have HN8 := Lib.hid (And.intro hT (And.intro (hZ.mono (show i ≤ i + 1 by omega)) hb))
            clear hT hZ hb ldO
            go_wp2
            go_roundw
            case rel => exact ⟨i + 1, L, D, rs, by omega, by omega, by go_num, HN8.out.1, HN8.out.2.1, HN8.out.2.2⟩
            case measure => simp [intOf]; omega
          by_cases h9 : mk = 9
          · subst h9
            have HN8 := Lib.hid (And.intro hT (And.intro (hZ.mono (show i ≤ i + 1 by omega)) hb))
            clear hT hZ hb ldO h8
            go_wp2
            go_roundw
            case rel => exact ⟨i + 1, L, D, rs, by omega, by omega, by go_num, HN8.out.1, HN8.out.2.1, HN8.out.2.2⟩
            case measure => simp [intOf]; omega
          have u8 : ((mk : Int) == 8) = false := by rw [beq_eq_false_iff_ne]; exact fun q => h8 (Int.ofNat_inj.1 (q : (mk : Int) = ((8 : Nat) : Int)))
          have u9 : ((mk : Int) == 9) = false := by rw [beq_eq_false_iff_ne]; exact fun q => h9 (Int.ofNat_inj.1 (q : (mk : Int) = ((9 : Nat) : Int)))
          have cdo := tdoes_any hT hZ (by omega) hb.size x m Af cf HV.out (Nat.le_refl _) (by rw [HMK.out]; exact h8) (by rw [HMK.out]; exact h9)
          have hz' := hZ.step (by omega) x HV.out.rc.fits HV.out.at_
          have HZ' := Lib.hid hz'
          have HB := Lib.hid hb
          clear hT hZ hb hz' R1 R2 R3 HMK
          go_upto_region 20 with fail
          clear r1 r2 r3 r4 u8 u9 ck
          go_wp2_with (first | (refine wpList_load_run rfl 54 (.tmp 151) _ _ rfl rfl ldO ?_; clear ldO) | fail)
          refine cdo.mono ?_
          rintro e w13 ⟨rfl, T13, hb13⟩
          have hb13' := HB.out.trans hb13
          have cal := talike_any T13 HZ'.out.fit HZ'.out.good (by omega)
          clear cdo
          go_wp2_with fail
          refine cal.mono ?_
          rintro e w14 ⟨rfl, hb14⟩
          have HN14 := Lib.hid (And.intro (T13.below hb14) (hb13'.trans (hb14.mono hb13'.size)))
          clear cal T13 hb13 hb13' hb14
          go_wp2
          go_roundw
          case rel => exact ⟨i + 1, _, _, _, by omega, by omega, by go_num, HN14.out.1, HZ'.out, HN14.out.2⟩
          case measure => simp [intOf]; omega
end Go.Proofs.YtkganajbilnanaaGreat
