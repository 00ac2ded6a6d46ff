/- page: the law's does. Conditions: both pages lie there, alike. -/
import Derived.Test.YtkknfccfgmflmaaPgRefD
import Derived.Deep.RegionHeld3
namespace Go.Proofs.Ytkknfccfgmflmaa
open Go.ChangeShapes Go.WideShapes Go.ChangeAt Go.RowKit
open NumMath
set_option linter.unusedVariables false
set_option linter.unusedSimpArgs false
set_option maxRecDepth 20000

/-- both pages, and only they (and new blocks) have turned since w0 -/
structure TwoP (w0 w : World) (gp gr : Nat) (f g : Nat → Nat) : Prop where
  p : PgAt w gp f
  r : RAt w gr (toR g)
  o : Only (fun b => b = gp ∨ b = gr) w0 w
section
variable {w0 w w' : World} {gr gp : Nat} {f g f' : Nat → Nat}
theorem TwoP.below (h : TwoP w0 w gp gr f g) (hb : Below w.heap.size w w') : TwoP w0 w' gp gr f g :=
  ⟨h.p.below hb, h.r.below hb, h.o.trans (Only.of_below hb (fun b => b = gp ∨ b = gr)) fun b q => .inl q⟩
theorem TwoP.postP (h : TwoP w0 w gp gr f g) (hne : gp ≠ gr) (hp : PgPost gp f' w w') : TwoP w0 w' gp gr f' g :=
  ⟨hp.1, h.r.only hp.2 (fun e => hne e.symm), h.o.trans hp.2 fun b q => .inl (.inl q)⟩
theorem TwoP.postR (h : TwoP w0 w gp gr f g) (hne : gp ≠ gr) (hp : RPost gr (toR f') w w') : TwoP w0 w' gp gr f f' :=
  ⟨h.p.only hp.2 hne, hp.1, h.o.trans hp.2 fun b q => .inl (.inr q)⟩
/-- what a call makes of both -/
def stepD (f : Nat → Nat) (x : OpP) : Nat → Nat := if x.kind % 8 = 6 then f else stepP f x
theorem stepD_sound {f : Nat → Nat} (h : Sound f) (x : OpP) (hx : Small x.data) : Sound (stepD f x) := by
  unfold stepD
  split
  · exact h
  · exact (stepP_sound h x hx).1
def intsV (zs : List Int) : List Value := zs.map (Value.int .u8)
theorem bytes_ints (l : List Nat) : l.map byteV = intsV (l.map fun n : Nat => (n : Int)) := by
  unfold intsV
  rw [List.map_map]
  rfl
theorem intsV_set (zs : List Int) (j : Nat) (z : Int) : (intsV zs).set j (.int .u8 z) = intsV (zs.set j z) := by
  unfold intsV
  rw [List.map_set]
theorem intsV_get (zs : List Int) {j : Nat} (h : j < zs.length) : (intsV zs)[j]? = some (.int .u8 zs[j]) := by
  unfold intsV
  rw [List.getElem?_map, List.getElem?_eq_getElem h]
  rfl
set_option maxHeartbeats 16000000 in
theorem does_any (h : TwoP w0 w gp gr f f) (hS : Sound f) (hne : gp ≠ gr) (x : OpP) (v0 v1 v2 v3 : Value) (B : Nat) (hx : OpV w B x v0 v1 v2 v3) (hB : B ≤ gp ∧ B ≤ gr ∧ B ≤ w.heap.size) (hd : x.data.length ≤ 200) :
    Calls Try.prog 20 #[.pointer (some ⟨gp, 0, none⟩), .pointer (some ⟨gr, 0, none⟩), .agg #[v0, v1, v2, v3]] w fun e w' => e = .returned (.bool true) ∧ TwoP w0 w' gp gr (stepD f x) (stepD f x) := by
  obtain ⟨rfl, rfl, ⟨A3, c3, rfl, hc3, b3⟩, rfl, hk, hsl, hls⟩ := hx
  obtain ⟨kind, slot, data, lsn⟩ := x
  simp only at hk hsl hls b3 hc3 hd ⊢
  have kb := Blk.new w 47 #[.int .u8 kind, .int .i64 slot, .slice A3 data.length c3, .int .u64 lsn]
  have a0 := (Below.refl w.heap.size w).alloc (Nat.le_refl _) (.cells #[.int .u8 kind, .int .i64 slot, .slice A3 data.length c3, .int .u64 lsn] 47)
  have h1 := h.below a0
  have y3 := b3.below (a0.mono hB.2.2)
  have hlt := h.p.lt
  have hlt2 := h.r.lt
  obtain ⟨m, hm⟩ : ∃ m, kind % 8 = m := ⟨_, rfl⟩
  have hm8 : m < 8 := by omega
  have r1 : (kind : Int) % 8 = (m : Int) := by omega
  have r2 : Int.tmod (kind : Int) 8 = (m : Int) := by rw [Int.tmod_eq_emod_of_nonneg (by omega)]; exact r1
  have hstep : stepD f ⟨kind, slot, data, lsn⟩ = if m = 6 then f else if m = 5 then (clearP f slot).2 else if m = 7 then stmp f lsn else (setP f slot data).2 := by
    unfold stepD stepP stmp
    simp only [hm]
  generalize stepD f ⟨kind, slot, data, lsn⟩ = F at *
  have FIN : ∀ W g, TwoP (w.alloc (.cells #[.int .u8 kind, .int .i64 slot, .slice A3 data.length c3, .int .u64 lsn] 47)) W gp gr g g → F = g → TwoP w0 W gp gr F F := fun W g hW he => by
    subst he
    exact ⟨hW.p, hW.r, h1.o.trans hW.o fun b q => .inl q⟩
  have T1 : TwoP (w.alloc (.cells #[.int .u8 kind, .int .i64 slot, .slice A3 data.length c3, .int .u64 lsn] 47)) (w.alloc (.cells #[.int .u8 kind, .int .i64 slot, .slice A3 data.length c3, .int .u64 lsn] 47)) gp gr f f := ⟨h1.p, h1.r, Only.refl _ _⟩
  have hnb : ¬ (w.heap.size = gp ∨ w.heap.size = gr) := by omega
  have hkl := kb.lt
  have hB1 := Nat.le_trans hB.2.2 a0.size
  have HST := Lib.hid hstep
  have HFIN := Lib.hid FIN
  clear hm h b3 hc3 hstep FIN h1 a0
  go_enter Try.func20, Try.ntmps20
  go_upto_region 1 with fail
  generalize World.alloc w _ = w1 at *
  have q0 := kb.cell 0
  have hC : Hid (∀ W, Only (fun b => b = gp ∨ b = gr) w1 W → W.cell? ⟨w.heap.size, 1, none⟩ = some (.int .i64 slot) ∧ W.cell? ⟨w.heap.size, 2, none⟩ = some (.slice A3 data.length c3) ∧ W.cell? ⟨w.heap.size, 3, none⟩ = some (.int .u64 lsn)) := Lib.hid fun W hW => ⟨(hW.cell (p := ⟨w.heap.size, 1, none⟩) hkl hnb).trans (kb.cell 1), (hW.cell (p := ⟨w.heap.size, 2, none⟩) hkl hnb).trans (kb.cell 2), (hW.cell (p := ⟨w.heap.size, 3, none⟩) hkl hnb).trans (kb.cell 3)⟩
  clear kb
  by_cases h5 : m = 5
  · subst h5
    have hst : F = (clearP f slot).2 := by rw [HST.out, if_neg (by omega), if_pos rfl]
    have HF := Lib.hid hst
    have cA := fun W g (hW : TwoP w1 W gp gr f g) => (clear_any hW.p hS slot).mono (fun e w' (hh : e = .returned (.bool (clearP f slot).1) ∧ PgPost gp (clearP f slot).2 W w') => And.intro hh.1 (hW.postP hne hh.2))
    have cB := fun W g (hW : TwoP w1 W gp gr g f) => (rclear_to hW.r hS slot).mono (fun e w' (hh : e = .returned (.bool (clearP f slot).1) ∧ RPost gr (toR (clearP f slot).2) W w') => And.intro hh.1 (hW.postR hne hh.2))
    have T0 := T1.below (below_drew0 w1)
    clear hst y3 T1
    generalize (clearP f slot).1 = b at *
    generalize (clearP f slot).2 = f2 at *
    have t1 : (b == b) = true := by simp
    go_wp2_with fail
    go_region_held3 (fun w' => w'.cell? ⟨w.heap.size, 1, none⟩ = some (.int .i64 slot)) (first | exact (hC.out _ T0.o).1 | exact (hC.out _ HA.o).1 | exact (hC.out _ HB.o).1 | exact (hC.out _ HAB.o).1) (first
      | ((with_reducible refine (cA _ _ T0).mono ?_); rintro e wA ⟨rfl, HA⟩)
      | ((with_reducible refine (cA _ _ HB).mono ?_); rintro e wAB ⟨rfl, HAB⟩)
      | ((with_reducible refine (cB _ _ HA).mono ?_); rintro e wAB ⟨rfl, HAB⟩)
      | ((with_reducible refine (cB _ _ T0).mono ?_); rintro e wB ⟨rfl, HB⟩)
      | fail)
    all_goals
      go_wp2
      go_ret
      exact ⟨rfl, HFIN.out _ _ HAB HF.out⟩
  · by_cases h6 : m = 6
    · subst h6
      have hst : F = f := by rw [HST.out, if_pos rfl]
      have HF := Lib.hid hst
      have cA := get_page T1.p hS slot
      have cl := hC.out w1 (Only.refl _ _)
      have q1 := cl.1
      have cB := fun W (hW : TwoP w1 W gp gr f f) => rget_to hW.r hS slot
      have hl64 : (getP f slot).length ≤ 64 := by
        unfold getP
        split
        · rw [dat_length]; exact (fit_old hS.ok _).2.2
        · simp
      clear hst y3 cl
      generalize getP f slot = l at *
      obtain ⟨n, hn⟩ : ∃ n, l.length = n := ⟨_, rfl⟩
      have HN := Lib.hid hn
      rw [hn] at hl64
      go_wp2_with fail
      refine cA.mono ?_
      rintro e w2 ⟨A, c, rfl, o2, b2, s2⟩
      rw [hn] at o2 ⊢
      have T2 := T1.below b2
      have q2 := (hC.out w2 T2.o).1
      have d2 := cB w2 T2
      have y2 := own_bytes (hn ▸ o2) s2
      clear cA T1 q1 cB
      go_wp2_with fail
      refine d2.mono ?_
      rintro e w3 ⟨A3', c3', rfl, o3, b3, s3⟩
      have T3 := T2.below b3
      have y3 := own_bytes o3 s3
      have o2' := kept_below b3 o2
      have cT := same_any A A3' c c3' l l w3.heap.size w3 ((y2.below b3).more b3.size) y3
      rw [decide_eq_true (show l = l from rfl)] at cT
      rw [hn] at cT ⊢
      have hw12 := Nat.le_trans b2.size b3.size
      have HX := Lib.hid (And.intro o2' T3)
      generalize hdd : decide (0 < n) = bb
      have t1 : (bb == bb) = true := by simp
      clear d2 T2 q2 b2 b3 s2 s3 y2 y3 o2 o3 o2' T3 hdd
      go_wp2_with fail
      refine cT.mono ?_
      rintro e w4 ⟨rfl, rfl⟩
      clear cT
      go_wp2_with fail
      go_loopw [12] (fun i wr => ∃ j : Nat, ∃ zs : List Int, j ≤ n ∧ i = .int .i64 j ∧ zs.length = n ∧ wr.ownsRow w1.heap.size 5 1 (.slice A n c) n (intsV zs) ∧ TwoP w1 wr gp gr f f) (fun i _ => n - (intOf i).toNat)
      case atStart => exact ⟨0, l.map fun n : Nat => (n : Int), Nat.zero_le _, rfl, by rw [List.length_map]; exact HN.out, by rw [← bytes_ints]; exact HX.out.1, HX.out.2⟩
      case round =>
        obtain ⟨j, zs, hj, rfl, hz, ho, hT⟩ := hrel
        rcases Nat.lt_or_ge j n with hjn | hjn
        · have e1 : decide ((j : Int) < (n : Int)) = true := by rw [decide_eq_true_iff]; omega
          have e2 : (0 : Int) ≤ (j : Int) := by omega
          have e3 : (j : Int) < (n : Int) := by omega
          obtain ⟨g, rfl, hg1, hg2⟩ := own_pos ho (by omega)
          have hc := (ho.cellAt j (by omega)).trans (intsV_get zs (by omega))
          have hfz := ho.frozenAt j
          have hst := Lib.hid (fun u => (ho.stored j u).1)
          have hTn : Hid (∀ u, TwoP w1 (wr.setCell ⟨g, j, none⟩ u) gp gr f f) := Lib.hid fun u => ⟨hT.p.only ((Only.refl (fun b => b = g) wr).setCell (p := ⟨g, j, none⟩) (.inl rfl) u) (by omega), hT.r.only ((Only.refl (fun b => b = g) wr).setCell (p := ⟨g, j, none⟩) (.inl rfl) u) (by omega), hT.o.setCell (p := ⟨g, j, none⟩) (.inr hg1) u⟩
          have HZ := Lib.hid hz
          generalize zs[j] = z at *
          clear ho hT hz
          go_wp2
          go_roundw
          case rel => 
            refine ⟨j + 1, zs.set j ?_, by omega, by go_num, ?_, ?_, hTn.out _⟩
            rotate_left 2
            · rw [← intsV_set]
              exact hst.out _
            · rw [List.length_set]
              exact HZ.out
          case measure => simp [intOf]; omega
        · obtain rfl : j = n := by omega
          have e1 : decide ((j : Int) < (j : Int)) = false := by rw [decide_eq_false_iff_not]; omega
          have HT := Lib.hid hT
          clear hT ho hz
          go_wp2
          go_ret
          exact ⟨rfl, HFIN.out _ _ HT.out HF.out⟩
    · by_cases h7 : m = 7
      · subst h7
        have hst : F = stmp f lsn := by rw [HST.out, if_neg (by omega), if_neg (by omega), if_pos rfl]
        have HF := Lib.hid hst
        have cl := hC.out w1 (Only.refl _ _)
        have q3 := cl.2.2
        have cA := stmp_any T1.p lsn hls
        have cB := fun W f' (hW : TwoP w1 W gp gr f' f) => rstamp_to hW.r hS lsn hls
        clear hst y3 cl
        go_wp2_with fail
        refine cA.mono ?_
        rintro e w2 ⟨rfl, hp⟩
        have T2 := T1.postP hne hp
        have q4 := (hC.out w2 T2.o).2.2
        have d2 := cB w2 _ T2
        clear cA cB T1 hp q3
        go_wp2_with fail
        refine d2.mono ?_
        rintro e w3 ⟨rfl, hp3⟩
        have HT := Lib.hid (T2.postR hne hp3)
        clear d2 T2 hp3 q4
        go_wp2
        go_ret
        exact ⟨rfl, HFIN.out _ _ HT.out HF.out⟩
      · have hst : F = (setP f slot data).2 := by rw [HST.out, if_neg h6, if_neg h5, if_neg h7]
        have HF := Lib.hid hst
        have u5 : ((m : Int) == 5) = false := by rw [beq_eq_false_iff_ne]; omega
        have u6 : ((m : Int) == 6) = false := by rw [beq_eq_false_iff_ne]; omega
        have u7 : ((m : Int) == 7) = false := by rw [beq_eq_false_iff_ne]; omega
        have cl := hC.out w1 (Only.refl _ _)
        have q2 := cl.2.1
        have hin : ∀ W, Only (fun b => b = gp ∨ b = gr) w1 W → BytesIn W (fun b => b ≠ gr) A3 data := fun W hW => by
          have : BytesIn w1 (fun b => ¬ (b = gp ∨ b = gr)) A3 data := by
            refine ⟨fun j hj => ?_, y3.2⟩
            obtain ⟨b, o, e, p1, p2⟩ := y3.1 j hj
            exact ⟨b, o, e, by omega, by omega, p2⟩
          exact (this.only hW fun b z => z).mono fun b z e => z (.inr e)
        have cA := fun W A c (hW : TwoP w1 W gp gr f f) hb => set_any hW.p hS slot A c data hb
        have cB := fun W f' (hW : TwoP w1 W gp gr f' f) => rset_any hW.r hS slot A3 c3 data (hin W hW.o)
        have cL := lent_any A3 c3 data B w1 y3 (by omega)
        have hdl : (setP f slot data).1 = (setP f slot data).1 := rfl
        have hcode : (setP f slot data).1 < 65536 := by
          have := (setP_sound hS slot y3.2).2.2.2.1
          omega
        have hsmall := y3.2
        clear hst cl hin hdl h5 h6 h7 y3
        generalize (setP f slot data).1 = co at *
        generalize (setP f slot data).2 = f2 at *
        obtain ⟨n, hn⟩ : ∃ n, data.length = n := ⟨_, rfl⟩
        have HN := Lib.hid hn
        have hn200 : n ≤ 200 := by omega
        clear hn
        have v1 : IntKind.i64.wrap (co : Int) = (co : Int) := by rw [IntKind.wrap_i64]; omega
        have t1 : ((co : Int) == (co : Int)) = true := by rw [beq_iff_eq]
        go_wp2_with fail
        refine cL.mono ?_
        rintro e w2 ⟨A, c, rfl, o2, b2⟩
        have T2 := T1.below b2
        have hb2 : BytesIn w2 (fun b => b ≠ gp) A data := ⟨(AtIn.own o2).mono fun b q e => by have := (o2.lt b q.symm).1; omega, hsmall⟩
        have d2 := cA w2 A c T2 hb2
        have q3 := (hC.out w2 T2.o).1
        rw [HN.out] at d2 o2 ⊢
        clear cL T1 b2 hb2 cA q2
        go_wp2_with fail
        refine d2.mono ?_
        rintro e w3 ⟨rfl, hp3⟩
        have T3 := T2.postP hne hp3
        have o3 := hp3.2.own o2 fun k hk e => by have := (o2.lt k hk).1; omega
        have d3 := cB w3 _ T3
        have q4 := hC.out w3 T3.o
        have q5 := q4.1
        have q6 := q4.2.1
        rw [HN.out] at d3 q6
        clear d2 T2 hp3 o2 cB q3 q4
        go_wp2_with fail
        refine d3.mono ?_
        rintro e w4 ⟨rfl, hp4⟩
        have T4 := T3.postR hne hp4
        have o4 := hp4.2.own o3 fun k hk e => by have := (o3.lt k hk).1; omega
        have HX := Lib.hid (And.intro o4 T4)
        clear d3 T3 hp4 o3 q5 q6 T4 o4
        go_wp2_with fail
        go_loopw [16] (fun i wr => ∃ j : Nat, ∃ zs : List Int, j ≤ n ∧ i = .int .i64 j ∧ zs.length = n ∧ wr.ownsRow w1.heap.size 5 1 (.slice A n c) n (intsV zs) ∧ TwoP w1 wr gp gr f2 f2) (fun i _ => n - (intOf i).toNat)
        case atStart => exact ⟨0, data.map fun n : Nat => (n : Int), Nat.zero_le _, rfl, by rw [List.length_map]; exact HN.out, by rw [← bytes_ints]; exact HX.out.1, HX.out.2⟩
        case round =>
          obtain ⟨j, zs, hj, rfl, hz, ho, hT⟩ := hrel
          rcases Nat.lt_or_ge j n with hjn | hjn
          · have e1 : decide ((j : Int) < (n : Int)) = true := by rw [decide_eq_true_iff]; omega
            have e2 : (0 : Int) ≤ (j : Int) := by omega
            have e3 : (j : Int) < (n : Int) := by omega
            obtain ⟨g, rfl, hg1, hg2⟩ := own_pos ho (by omega)
            have hc := (ho.cellAt j (by omega)).trans (intsV_get zs (by omega))
            have hfz := ho.frozenAt j
            have hst := Lib.hid (fun u => (ho.stored j u).1)
            have hTn : Hid (∀ u, TwoP w1 (wr.setCell ⟨g, j, none⟩ u) gp gr f2 f2) := Lib.hid fun u => ⟨hT.p.only ((Only.refl (fun b => b = g) wr).setCell (p := ⟨g, j, none⟩) (.inl rfl) u) (by omega), hT.r.only ((Only.refl (fun b => b = g) wr).setCell (p := ⟨g, j, none⟩) (.inl rfl) u) (by omega), hT.o.setCell (p := ⟨g, j, none⟩) (.inr hg1) u⟩
            have HZ := Lib.hid hz
            generalize zs[j] = z at *
            clear ho hT hz
            go_wp2
            go_roundw
            case rel => 
              refine ⟨j + 1, zs.set j ?_, by omega, by go_num, ?_, ?_, hTn.out _⟩
              rotate_left 2
              · rw [← intsV_set]
                exact hst.out _
              · rw [List.length_set]
                exact HZ.out
            case measure => simp [intOf]; omega
          · obtain rfl : j = n := by omega
            have e1 : decide ((j : Int) < (j : Int)) = false := by rw [decide_eq_false_iff_not]; omega
            have HT := Lib.hid hT
            clear hT ho hz
            go_wp2
            go_ret
            exact ⟨rfl, HFIN.out _ _ HT.out HF.out⟩
end
end Go.Proofs.Ytkknfccfgmflmaa
