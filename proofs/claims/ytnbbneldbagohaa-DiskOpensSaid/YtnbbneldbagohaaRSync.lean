/- The document's device: Sync, Image. Conditions: the device lies there. -/
import Derived.Test.YtnbbneldbagohaaRRead
import Derived.Test.YtnbbneldbagohaaRWrite
namespace Go.Proofs.Ytnbbneldbagohaa
open Go.ChangeShapes Go.WideShapes Go.ChangeAt Go.RowKit
set_option linter.unusedVariables false
set_option linter.unusedSimpArgs false
set_option maxRecDepth 20000

section
variable {D : DevP} {w : World} {F F' : Nat → Prop} {p : Value} {gp : Nat} {s : Nat → Value} {lf : Int} {X : Nat → List Value}
theorem RAt.set2 (h : RAt D w F gp s lf X) {n k g c : Nat} (hn : n < 2) (hk : k < (D.f n).length) (es : s n = .slice (some ⟨g, 0, none⟩) (D.f n).length c) {u : Value} {l : List Nat} (hu : Txt w F' u l) (hFF : ∀ b, F b → F' b) :
    RAt (D.put n k ⟨l, []⟩) ((w.setCell ⟨g, 2 * k, none⟩ u).setCell ⟨g, 2 * k + 1, none⟩ (.slice none 0 0)) F' gp s lf (updX X n (((X n).set (2 * k) u).set (2 * k + 1) (.slice none 0 0))) := by
  have hr := (h.file n hn).1
  rw [es] at hr
  have hg : Ty w g 83 := own_ty hr rfl
  have hgp : gp ≠ g := fun q => by subst q; exact absurd (h.blk.ty.uniq hg) (by decide)
  exact ⟨h.toFilesAt.set2 (by decide) (by decide) hn hk es hu hFF, (h.blk.far hgp _).far hgp _, hFF _ h.inF, h.left⟩
theorem RAt.hardF (h : RAt D w F gp s lf X) {n g c : Nat} (hn : n < 2) (es : s n = .slice (some ⟨g, 0, none⟩) (D.f n).length c) : Hard F w g ∧ g < w.heap.size := by
  obtain ⟨hr, hF, _⟩ := h.file n hn
  rw [es] at hr hF
  exact ⟨⟨hF g rfl, fun q => absurd ((own_ty hr rfl).uniq q) (by decide)⟩, (hr.lt g rfl).2⟩
set_option maxHeartbeats 1000000 in
theorem rsync_some (h : RAt D w F gp s lf X) (hF : ∀ b, F b → b < w.heap.size) {N : Nat} (hG : D.good N) (hN : N ≤ 100000) {n : Nat} (hn : n < 2) :
    Calls Try.prog 42 #[.pointer (some ⟨gp, 0, none⟩), .int .u8 n] w fun e w' => e = .returned (.tuple #[]) ∧ RPost (D.sync n) F (.pointer (some ⟨gp, 0, none⟩)) w w' := by
  have hgo := stopped_any h
  have hlt : decide ((1 : Int) < (n : Int)) = false := by rw [decide_eq_false_iff_not]; omega
  have e4 : (0 : Int) ≤ (n : Int) := by omega
  have e5 : (n : Int) < 2 := by omega
  obtain ⟨A, c, es, -, -⟩ := own_form (h.file n hn).1
  have hH : ∀ g o, A = some ⟨g, o, none⟩ → Hard F w g ∧ g < w.heap.size ∧ o = 0 := fun g o e => by
    subst e
    have ho := (h.file n hn).1
    rw [es] at ho
    rcases ho.2 with ⟨e', _⟩ | ⟨g', cap, cur, e', _⟩
    · cases e'
    · injection e' with e' _ _
      injection e' with e'
      injection e' with e1 e2
      subst e2
      have := h.hardF hn es
      exact ⟨this.1, this.2, rfl⟩
  have hD : D.sync n = if D.goes.1 then { D.goes.2 with f := mapF D n syncS } else D.goes.2 := if_pos hn
  rw [hD]
  clear hD
  cases hg : D.goes.1 with
  | false =>
    rw [hg] at hgo
    clear h
    go_enter Try.func42, Try.ntmps42
    go_wp2_with fail
    refine hgo.mono ?_
    rintro e w1 ⟨rfl, ⟨lf', h1⟩, h2⟩
    have hfin : RPost D.goes.2 F (.pointer (some ⟨gp, 0, none⟩)) w w1 := ⟨⟨gp, s, lf', X, rfl, h1.mono fun b q => .inl q⟩, h2.mono fun b q => .inl q.1⟩
    have HF := Lib.hid hfin
    clear h1 h2 hfin
    go_wp2
    refine bodyPost_ret (results_none rfl _ _ _) rfl ?_
    exact ⟨rfl, HF.out⟩
  | true =>
    rw [hg] at hgo
    have hgf := D.goes_f
    generalize hD' : D.goes.2 = D' at *
    clear h
    go_enter Try.func42, Try.ntmps42
    go_wp2_with fail
    refine hgo.mono ?_
    rintro e w1 ⟨rfl, ⟨lf', h1⟩, h2⟩
    obtain ⟨f0, left0, hal0⟩ := D'
    simp only at hgf
    subst hgf
    clear hD' hgo
    obtain ⟨m, hm⟩ : ∃ m, (D.f n).length = m := ⟨_, rfl⟩
    have hm2 := (hG n hn).1
    rw [hm] at es hm2
    have HM := Lib.hid hm
    clear hm
    go_wp2_with fail
    go_loopw [5, 6, 7] (fun i _ _ wr => ∃ k : Nat, k ≤ m ∧ i = .int .i64 k ∧ (∃ Xk, RAt ⟨stepF D.f n syncS k, left0, hal0⟩ wr (grow F w wr) gp s lf' Xk) ∧ Only (Hard F w) w wr) (fun i _ _ _ => m - (intOf i).toNat)
    case atStart => exact ⟨0, Nat.zero_le _, rfl, ⟨X, by rw [stepF_zero]; exact h1.mono fun b q => .inl q⟩, h2⟩
    case round =>
      clear h1 h2
      obtain ⟨k, hk, rfl, ⟨Xk, hd⟩, hO⟩ := hrel
      have c0 := hd.cellF hn
      rw [es] at c0
      rcases Nat.lt_or_ge k m with hlt | hge
      · have e1 : decide ((k : Int) < (m : Int)) = true := by rw [decide_eq_true_iff]; omega
        have e2 : (0 : Int) ≤ (k : Int) := by omega
        have e3 : (k : Int) < (m : Int) := by omega
        have hkl0 : k < (D.f n).length := by rw [HM.out]; exact hlt
        have hkl : k < (stepF D.f n syncS k n).length := by rw [stepF_length]; exact hkl0
        have hAt := stepF_at D.f n syncS hkl0 hkl
        have hln : (stepF D.f n syncS k n).length = m := by rw [stepF_length, HM.out]
        have hnx := stepF_next D.f n syncS hkl0
        have hgk : (⟨stepF D.f n syncS k, left0, hal0⟩ : DevP).good N := fun q hq => by
          refine ⟨by show (stepF D.f n syncS k q).length ≤ _; rw [stepF_length]; exact (hG q hq).1, fun sc hsc => ?_⟩
          have hsc' : sc ∈ stepF D.f n syncS k q := hsc
          unfold stepF at hsc'
          split at hsc'
          · obtain ⟨i, hi, rfl⟩ := List.mem_mapIdx.1 hsc'
            obtain ⟨q1, q2, q3⟩ := hG.at_ hq hi
            split
            · exact ⟨newest_128 q1 q3, Nat.zero_le _, fun x hx => by cases hx⟩
            · exact ⟨q1, q2, q3⟩
          · exact (hG q hq).2 sc hsc'
        have hrd := rread_some hd hgk hN hn hkl
        rw [show (DevP.f ⟨stepF D.f n syncS k, left0, hal0⟩ n)[k]'hkl = (D.f n)[k] from hAt] at hrd
        obtain ⟨q1, q2, q3⟩ := hG.at_ hn hkl0
        have hn128 := newest_128 q1 q3
        have es' : s n = .slice A (stepF D.f n syncS k n).length c := by rw [hln]; exact es
        have hrow := (hd.file n hn).1
        rw [es] at hrow
        obtain ⟨g, rfl, hg0, hgl⟩ := own_pos (n := m) (by rw [show (DevP.f ⟨stepF D.f n syncS k, left0, hal0⟩ n).length = m from hln] at hrow; exact hrow) (by omega)
        have hHg := hH g 0 rfl
        generalize hnl : (D.f n)[k].newest = nl at *
        have hwr := hO.size
        have post : ∀ w2, Below wr.heap.size wr w2 → ∀ (A2 : Option Addr) (c2 : Nat), w2.ownsRow wr.heap.size 5 1 (.slice A2 128 c2) 128 (nl.map byteV) → Small nl →
            (∃ Xk, RAt ⟨stepF D.f n syncS (k + 1), left0, hal0⟩ ((w2.setCell ⟨g, k * 2, none⟩ (.slice A2 128 c2)).setCell ⟨g, k * 2 + 1, none⟩ (.slice none 0 0)) (grow F w ((w2.setCell ⟨g, k * 2, none⟩ (.slice A2 128 c2)).setCell ⟨g, k * 2 + 1, none⟩ (.slice none 0 0))) gp s lf' Xk) ∧
            Only (Hard F w) w ((w2.setCell ⟨g, k * 2, none⟩ (.slice A2 128 c2)).setCell ⟨g, k * 2 + 1, none⟩ (.slice none 0 0)) := fun w2 hb A2 c2 ho2 hs2 => by
          have hszz : ((w2.setCell ⟨g, k * 2, none⟩ (.slice A2 128 c2)).setCell ⟨g, k * 2 + 1, none⟩ (.slice none 0 0)).heap.size = w2.heap.size := by simp [World.setCell]
          have hgr : ∀ b, grow F w wr b → grow F w w2 b := fun b z => z.imp id fun y => ⟨y.1, Nat.lt_of_lt_of_le y.2 hb.size⟩
          have hd2 := hd.grown hb hgr
          have htx : Txt w2 (grow F w w2) (.slice A2 128 c2) nl := Txt.own ho2 hn128 hs2 fun b e => .inr ⟨Nat.le_trans hwr (ho2.lt b e).1, (ho2.lt b e).2⟩
          have := hd2.set2 hn hkl es' htx fun b z => z
          rw [Nat.mul_comm 2 k] at this
          have hp : (DevP.put ⟨stepF D.f n syncS k, left0, hal0⟩ n k ⟨nl, []⟩) = ⟨stepF D.f n syncS (k + 1), left0, hal0⟩ := by
            unfold DevP.put
            rw [← hnx]
            unfold syncS
            rw [hnl]
          rw [hp] at this
          refine ⟨⟨_, by unfold grow; rw [hszz]; exact this⟩, ?_⟩
          exact ((hO.trans (Only.of_below hb (fun _ => False)) fun _ z => z.elim).setCell (p := ⟨g, k * 2, none⟩) (.inl hHg.1) _).setCell (p := ⟨g, k * 2 + 1, none⟩) (.inl hHg.1) _
        have POST := Lib.hid post
        have hgl' : g < wr.heap.size := Nat.lt_of_lt_of_le hHg.2.1 hwr
        rw [show (DevP.f ⟨stepF D.f n syncS k, left0, hal0⟩ n).length = m from hln] at hrow
        have hXl : (Xk n).length = m * 2 := hrow.1
        obtain ⟨vc0, hv0⟩ : ∃ v, wr.cell? ⟨g, k * 2, none⟩ = some v := ⟨_, (hrow.cellAt (k * 2) (by omega)).trans (List.getElem?_eq_getElem (by omega))⟩
        obtain ⟨vc1, hv1⟩ : ∃ v, wr.cell? ⟨g, k * 2 + 1, none⟩ = some v := ⟨_, (hrow.cellAt (k * 2 + 1) (by omega)).trans (List.getElem?_eq_getElem (by omega))⟩
        have hf0 := hrow.frozenAt (k * 2)
        have hf1 := hrow.frozenAt (k * 2 + 1)
        have hgpl := hd.blk.lt
        clear post hd hnx hrow es' hgk hAt hln hkl q1 q2 q3 hnl hkl0
        go_wp2_with fail
        refine hrd.mono ?_
        rintro e w2 ⟨A2, c2, rfl, o2, b2, s2⟩
        rw [hn128] at o2 ⊢
        have P2 := Lib.hid (POST.out w2 b2 A2 c2 o2 s2)
        have c0' := (b2.cell (p := ⟨gp, n, none⟩) hgpl).trans c0
        have hv0' := (b2.cell (p := ⟨g, k * 2, none⟩) hgl').trans hv0
        have hv1' := (b2.cell (p := ⟨g, k * 2 + 1, none⟩) hgl').trans hv1
        have hf0' := (b2.frozen (p := ⟨g, k * 2, none⟩) hgl').trans hf0
        have hf1' := (b2.frozen (p := ⟨g, k * 2 + 1, none⟩) hgl').trans hf1
        clear hrd o2 b2 c0 hv0 hv1 hf0 hf1
        go_wp2
        go_roundw
        case rel => exact ⟨k + 1, by omega, by go_num, P2.out⟩
        case measure => simp [intOf]; omega
      · obtain rfl : k = m := by omega
        have e1 : decide ((k : Int) < (k : Int)) = false := by rw [decide_eq_false_iff_not]; omega
        have hfin : RPost { (⟨D.f, left0, hal0⟩ : DevP) with f := mapF D n syncS } F (.pointer (some ⟨gp, 0, none⟩)) w wr := by
          rw [stepF_all D.f n syncS HM.out.symm] at hd
          exact ⟨⟨gp, s, lf', Xk, rfl, hd⟩, hO.mono fun b q => .inl q.1⟩
        have HFIN := Lib.hid hfin
        clear hfin hd hO
        go_wp2
        go_end0
        exact ⟨rfl, HFIN.out⟩
theorem rsync_any (h : IsRDev D w F p) (hF : ∀ b, F b → b < w.heap.size) {N : Nat} (hG : D.good N) (hN : N ≤ 100000) (n : Nat) (hn : n < 256) :
    Calls Try.prog 42 #[p, .int .u8 n] w fun e w' => e = .returned (.tuple #[]) ∧ RPost (D.sync n) F p w w' := by
  have hp := h
  obtain ⟨gp, s, lf, X, rfl, h'⟩ := hp
  by_cases hh : n < 2
  · exact rsync_some h' hF hG hN hh
  · have e1 : D.sync n = D := if_neg hh
    rw [e1]
    have hlt : decide ((1 : Int) < (n : Int)) = true := by rw [decide_eq_true_iff]; omega
    have FIN := Lib.hid (RPost.refl h)
    clear h h' e1
    go_enter Try.func42, Try.ntmps42
    go_wp2
    refine bodyPost_ret (results_none rfl _ _ _) rfl ?_
    exact ⟨rfl, FIN.out⟩
end
/-- Write, whatever is asked -/
theorem rwrite_any {D : DevP} {w : World} {F : Nat → Prop} {p : Value} (h : IsRDev D w F p) (hF : ∀ b, F b → b < w.heap.size) {N : Nat} (hG : D.good N) (hN : N ≤ 100000) (n : Nat) (hn : n < 256) (i : Int) (A : Option Addr) (c : Nat) (l : List Nat) (hl : BytesIn w (fun b => ¬ F b) A l) :
    Calls Try.prog 47 #[p, .int .u8 n, .int .i64 i, .slice A l.length c] w fun e w' => e = .returned (.int .i64 ((D.write n i l).1 : Nat)) ∧ RPost (D.write n i l).2 F p w w' := by
  have hp := h
  obtain ⟨gp, s, lf, X, rfl, h'⟩ := hp
  by_cases hh : D.has n i
  · obtain ⟨h1, h2, h3⟩ := hh
    obtain ⟨k, rfl⟩ := Int.eq_ofNat_of_zero_le h2
    have hk : k < (D.f n).length := by omega
    by_cases hl8 : l.length = 128
    · have e1 : (D.write n (k : Nat) l).1 = 0 := by
        unfold DevP.write
        rw [if_pos ⟨h1, h2, h3⟩, if_pos hl8]
      rw [e1]
      exact rwrite_some h hF hG hN h1 hk A c l hl hl8
    · have e1 : D.write n (k : Nat) l = (1, D) := by
        unfold DevP.write
        rw [if_pos ⟨h1, h2, h3⟩, if_neg hl8]
      rw [e1]
      have hno := none_yes h' h1 hk (hG n h1).1
      have FIN := Lib.hid (RPost.refl h)
      have hne : ((l.length : Int) != 128) = true := by rw [bne_iff_ne]; omega
      clear h h' e1 hl
      go_enter Try.func47, Try.ntmps47
      go_wp2_with fail
      refine hno.mono ?_
      rintro e w1 ⟨rfl, rfl⟩
      go_wp2
      go_ret
      exact ⟨rfl, FIN.out⟩
  · have e1 : D.write n i l = (50, D) := by
      unfold DevP.write
      rw [if_neg hh]
    rw [e1]
    have hno := none_no h' n hn i hh
    have FIN := Lib.hid (RPost.refl h)
    clear h h' e1 hl hh
    go_enter Try.func47, Try.ntmps47
    go_wp2_with fail
    refine hno.mono ?_
    rintro e w1 ⟨rfl, rfl⟩
    go_wp2
    go_ret
    exact ⟨rfl, FIN.out⟩
end Go.Proofs.Ytnbbneldbagohaa
