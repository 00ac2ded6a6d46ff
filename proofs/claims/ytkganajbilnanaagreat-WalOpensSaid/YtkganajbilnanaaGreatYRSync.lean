/- The document's device: Read, Sync, Image. Conditions: the device lies there. -/
import Derived.Test.YtkganajbilnanaaGreatYRWrite
set_option linter.unusedVariables false
set_option linter.unusedSimpArgs false
namespace Go.Proofs.YtkganajbilnanaaGreat
open Go.ChangeShapes Go.WideShapes Go.ChangeAt Go.RowKit
set_option maxRecDepth 20000
def RetBI (l : List Nat) (no : Int) (w : World) (e : Ending) (w' : World) : Prop :=
  ∃ A c, e = .returned (.tuple #[.slice A l.length c, .int .i64 no]) ∧ w'.ownsRow w.heap.size 5 1 (.slice A l.length c) l.length (l.map byteV) ∧ Below w.heap.size w w' ∧ Small l
theorem RetBI.of {l : List Nat} {no : Int} {w w1 w2 : World} {A : Option Addr} {c : Nat} (hb : Below w.heap.size w w1) (ho : w2.ownsRow w1.heap.size 5 1 (.slice A l.length c) l.length (l.map byteV)) (hb2 : Below w1.heap.size w1 w2) (hs : Small l) :
    RetBI l no w (.returned (.tuple #[.slice A l.length c, .int .i64 no])) w2 := ⟨A, c, rfl, own_base hb.size ho, hb.trans (hb2.mono hb.size), hs⟩
section
variable {D : DevP} {w : World} {F : Nat → Prop} {p : Value} {gp : Nat} {s : Nat → Value} {lf : Int} {X : Nat → List Value}
set_option maxHeartbeats 1000000 in
theorem rread_some (h : RAt D w F gp s lf X) {N : Nat} (hG : D.good N) (hN : N ≤ 100000) {n k : Nat} (hn : n < 2) (hk : k < (D.f n).length) :
    Calls Tryz.prog 32 #[.pointer (some ⟨gp, 0, none⟩), .int .u8 n, .int .i64 k] w (RetBI (D.f n)[k].newest 0 w) := by
  have hno := none_yes h hn hk (hG n hn).1
  obtain ⟨r1, r2, r3⟩ := hG.at_ hn hk
  obtain ⟨g, c, lw, wv, es, q0, q1, ht, ⟨L, how, hFw, hT⟩, hFg, hgw, -⟩ := h.toFilesAt.sector hn hk
  obtain ⟨A5, c5, rfl, -, -⟩ := own_form how
  obtain ⟨A6, c6, rfl, hc6, hb6⟩ := ht.bytes
  have c0 := h.cellF hn
  rw [es] at c0
  rw [Nat.mul_comm 2 k] at q0 q1
  have hgpl := h.blk.lt
  have e4 : (0 : Int) ≤ (n : Int) := by omega
  have e5 : (n : Int) < 2 := by omega
  have e6 : (0 : Int) ≤ (k : Int) := by omega
  have e7 : (k : Int) < ((D.f n).length : Int) := by omega
  have hnew : (D.f n)[k].newest = (D.f n)[k].waits.getLast?.getD (D.f n)[k].last := rfl
  clear h hG es ht
  generalize (D.f n)[k] = sc at *
  generalize (D.f n).length = m2 at *
  have a0 := (Below.refl w.heap.size w).alloc (Nat.le_refl _) (.cells #[.slice A6 sc.last.length c6, .slice A5 sc.waits.length c5] 126)
  rw [hnew]
  clear hnew
  rcases Nat.eq_zero_or_pos sc.waits.length with h0 | h0
  · have e : sc.waits = [] := List.length_eq_zero_iff.1 h0
    rw [e] at q1 how a0 ⊢
    simp only [List.length_nil, List.getLast?_nil, Option.getD_none] at q1 a0 ⊢
    rw [r1] at q0 a0
    have hcl := rlent_any A6 c6 sc.last w.heap.size (w.alloc (.cells #[.slice A6 128 c6, .slice A5 0 c5] 126)) (hb6.below a0) (by omega)
    rw [r1] at hcl
    have fin : ∀ A c w2, w2.ownsRow (w.alloc (.cells #[.slice A6 128 c6, .slice A5 0 c5] 126)).heap.size 5 1 (.slice A sc.last.length c) sc.last.length (sc.last.map byteV) → Below (w.alloc (.cells #[.slice A6 128 c6, .slice A5 0 c5] 126)).heap.size (w.alloc (.cells #[.slice A6 128 c6, .slice A5 0 c5] 126)) w2 → Small sc.last → RetBI sc.last 0 w (.returned (.tuple #[.slice A sc.last.length c, .int .i64 0])) w2 := fun A c w2 y1 y2 y3 => RetBI.of a0 y1 y2 y3
    have FIN := Lib.hid fin
    clear fin hb6 how
    go_enter Tryz.func32, Tryz.ntmps32
    go_wp2_with fail
    refine hno.mono ?_
    rintro e w1 ⟨rfl, rfl⟩
    go_wp2_with fail
    refine hcl.mono ?_
    rintro e w2 ⟨A7, c7, rfl, o7, b7, s7⟩
    have F7' := FIN.out A7 c7 w2 o7 b7 s7
    simp only [r1] at F7'
    have F7 := Lib.hid F7'
    clear F7'
    clear o7 b7 hcl FIN
    go_wp2
    go_ret2
    exact F7.out
  · obtain ⟨b2, rfl, hb2, hb2'⟩ := own_pos how h0
    obtain ⟨m, hm⟩ : ∃ m, sc.waits.length = m + 1 := ⟨sc.waits.length - 1, by omega⟩
    have hLl : L.length = m + 1 := by have := how.1; omega
    have hu : L[m]? = some (L[m]'(by omega)) := List.getElem?_eq_getElem (by omega)
    have hl : sc.waits[m]? = some (sc.waits[m]'(by omega)) := List.getElem?_eq_getElem (by omega)
    have hx := hT m _ _ hu hl
    have hw128 : (sc.waits[m]'(by omega)).length = 128 := r3 _ (List.getElem_mem _)
    have e : sc.waits.getLast?.getD sc.last = sc.waits[m]'(by omega) := by
      have e' : sc.waits.length - 1 = m := by omega
      rw [List.getLast?_eq_getElem?, e', hl]; rfl
    rw [e]
    have qc : w.cell? ⟨b2, m, none⟩ = some (L[m]'(by omega)) := (how.cellAt m (by omega)).trans hu
    rw [hm] at q1 a0
    rw [r1] at q0 a0
    have hm5 : m < 100000 := by omega
    generalize L[m]'(by omega) = u at *
    generalize sc.waits[m]'(by omega) = x at *
    obtain ⟨A8, c8, rfl, hc8, hb8⟩ := hx.bytes
    rw [hw128] at qc
    have qc' := (a0.cell (p := ⟨b2, m, none⟩) hb2').trans qc
    have hcl := rlent_any A8 c8 x w.heap.size (w.alloc (.cells #[.slice A6 128 c6, .slice (some ⟨b2, 0, none⟩) (m + 1) c5] 126)) (hb8.below a0) (by omega)
    rw [hw128] at hcl
    have fin : ∀ A c w2, w2.ownsRow (w.alloc (.cells #[.slice A6 128 c6, .slice (some ⟨b2, 0, none⟩) (m + 1) c5] 126)).heap.size 5 1 (.slice A x.length c) x.length (x.map byteV) → Below (w.alloc (.cells #[.slice A6 128 c6, .slice (some ⟨b2, 0, none⟩) (m + 1) c5] 126)).heap.size (w.alloc (.cells #[.slice A6 128 c6, .slice (some ⟨b2, 0, none⟩) (m + 1) c5] 126)) w2 → Small x → RetBI x 0 w (.returned (.tuple #[.slice A x.length c, .int .i64 0])) w2 := fun A c w2 y1 y2 y3 => RetBI.of a0 y1 y2 y3
    have FIN := Lib.hid fin
    obtain ⟨q, hq⟩ : ∃ q : Nat, m + 1 = q := ⟨_, rfl⟩
    rw [hq] at q1 hcl FIN qc'
    have g1 : decide ((0 : Int) < (q : Int)) = true := by rw [decide_eq_true_iff]; omega
    have g2 : (q : Int) - 1 = (m : Int) := by omega
    have g3 : (0 : Int) ≤ (m : Int) := by omega
    have g4 : (m : Int) < (q : Int) := by omega
    clear fin hb6 how hb8 hx hu hl hT a0 e hq hm h0 hLl
    go_enter Tryz.func32, Tryz.ntmps32
    go_wp2_with fail
    refine hno.mono ?_
    rintro e w1 ⟨rfl, rfl⟩
    go_wp2_with fail
    refine hcl.mono ?_
    rintro e w2 ⟨A7, c7, rfl, o7, b7, s7⟩
    have F7' := FIN.out A7 c7 w2 o7 b7 s7
    simp only [hw128] at F7'
    have F7 := Lib.hid F7'
    clear F7'
    clear o7 b7 hcl FIN
    go_wp2
    go_ret2
    exact F7.out
theorem rread_any (h : IsRDev D w F p) {N : Nat} (hG : D.good N) (hN : N ≤ 100000) (n : Nat) (hn : n < 256) (i : Int) :
    Calls Tryz.prog 32 #[p, .int .u8 n, .int .i64 i] w (RetBI (D.read n i).1 ((D.read n i).2 : Nat) w) := by
  obtain ⟨gp, s, lf, X, rfl, h⟩ := h
  by_cases hh : D.has n i
  · have hh' := hh
    obtain ⟨h1, h2, h3⟩ := hh
    obtain ⟨k, rfl⟩ := Int.eq_ofNat_of_zero_le h2
    have hk : k < (D.f n).length := by omega
    have e1 : D.read n (k : Nat) = ((D.f n)[k].newest, 0) := by
      unfold DevP.read
      rw [if_pos hh', Int.toNat_natCast, DevP.sect_eq hk]
    rw [e1]
    exact rread_some h hG hN h1 hk
  · have e1 : D.read n i = ([], 50) := by
      unfold DevP.read
      rw [if_neg hh]
    rw [e1]
    have hno := none_no h n hn i hh
    have fin : RetBI [] 50 w (.returned (.tuple #[.slice none 0 0, .int .i64 50])) w := ⟨none, 0, rfl, World.ownsRow_nil _ _ _ _, Below.refl _ _, fun x hx => by cases hx⟩
    have FIN := Lib.hid fin
    clear h fin
    go_enter Tryz.func32, Tryz.ntmps32
    go_wp2_with fail
    refine hno.mono ?_
    rintro e w1 ⟨rfl, rfl⟩
    go_wp2
    go_ret2
    exact FIN.out
end
section
variable {D : DevP} {w : World} {F F' : Nat → Prop} {p : Value} {gp : Nat} {s : Nat → Value} {lf : Int} {X : Nat → List Value}
theorem RAt.set2 (h : RAt D w F gp s lf X) {n k g c : Nat} (hn : n < 2) (hk : k < (D.f n).length) (es : s n = .slice (some ⟨g, 0, none⟩) (D.f n).length c) {u : Value} {l : List Nat} (hu : Txt w F' u l) (hFF : ∀ b, F b → F' b) :
    RAt (D.put n k ⟨l, []⟩) ((w.setCell ⟨g, 2 * k, none⟩ u).setCell ⟨g, 2 * k + 1, none⟩ (.slice none 0 0)) F' gp s lf (updX X n (((X n).set (2 * k) u).set (2 * k + 1) (.slice none 0 0))) := by
  have hr := (h.file n hn).1
  rw [es] at hr
  have hg : Ty w g 126 := own_ty hr rfl
  have hgp : gp ≠ g := fun q => by subst q; exact absurd (h.blk.ty.uniq hg) (by decide)
  exact ⟨h.toFilesAt.set2 (by decide) (by decide) hn hk es hu hFF, (h.blk.far hgp _).far hgp _, hFF _ h.inF, h.left⟩
theorem RAt.hardF (h : RAt D w F gp s lf X) {n g c : Nat} (hn : n < 2) (es : s n = .slice (some ⟨g, 0, none⟩) (D.f n).length c) : Hard F w g ∧ g < w.heap.size := by
  obtain ⟨hr, hF, _⟩ := h.file n hn
  rw [es] at hr hF
  exact ⟨⟨hF g rfl, fun q => absurd ((own_ty hr rfl).uniq q) (by decide)⟩, (hr.lt g rfl).2⟩
set_option maxHeartbeats 1000000 in
theorem rsync_some (h : RAt D w F gp s lf X) (hF : ∀ b, F b → b < w.heap.size) {N : Nat} (hG : D.good N) (hN : N ≤ 100000) {n : Nat} (hn : n < 2) :
    Calls Tryz.prog 89 #[.pointer (some ⟨gp, 0, none⟩), .int .u8 n] w fun e w' => e = .returned (.tuple #[]) ∧ RPost (D.sync n) F (.pointer (some ⟨gp, 0, none⟩)) w w' := by
  have hgo := stopped_any h
  have hlt : decide ((1 : Int) < (n : Int)) = false := by rw [decide_eq_false_iff_not]; omega
  have e4 : (0 : Int) ≤ (n : Int) := by omega
  have e5 : (n : Int) < 2 := by omega
  obtain ⟨A, c, es, -, -⟩ := own_form (h.file n hn).1
  have hH : ∀ g o, A = some ⟨g, o, none⟩ → Hard F w g ∧ g < w.heap.size ∧ o = 0 := fun g o e => by
    subst e
    have ho := (h.file n hn).1
    rw [es] at ho
    rcases ho.2 with ⟨e', _⟩ | ⟨g', cap, cur, e', _⟩
    · cases e'
    · injection e' with e' _ _
      injection e' with e'
      injection e' with e1 e2
      subst e2
      have := h.hardF hn es
      exact ⟨this.1, this.2, rfl⟩
  have hD : D.sync n = if D.goes.1 then { D.goes.2 with f := mapF D n syncS } else D.goes.2 := if_pos hn
  rw [hD]
  clear hD
  cases hg : D.goes.1 with
  | false =>
    rw [hg] at hgo
    clear h
    go_enter Tryz.func89, Tryz.ntmps89
    go_wp2_with fail
    refine hgo.mono ?_
    rintro e w1 ⟨rfl, ⟨lf', h1⟩, h2⟩
    have hfin : RPost D.goes.2 F (.pointer (some ⟨gp, 0, none⟩)) w w1 := ⟨⟨gp, s, lf', X, rfl, h1.mono fun b q => .inl q⟩, h2.mono fun b q => .inl q.1⟩
    have HF := Lib.hid hfin
    clear h1 h2 hfin
    go_wp2
    refine bodyPost_ret (results_none rfl _ _ _) rfl ?_
    exact ⟨rfl, HF.out⟩
  | true =>
    rw [hg] at hgo
    have hgf := D.goes_f
    generalize hD' : D.goes.2 = D' at *
    clear h
    go_enter Tryz.func89, Tryz.ntmps89
    go_wp2_with fail
    refine hgo.mono ?_
    rintro e w1 ⟨rfl, ⟨lf', h1⟩, h2⟩
    obtain ⟨f0, left0, hal0⟩ := D'
    simp only at hgf
    subst hgf
    clear hD' hgo
    obtain ⟨m, hm⟩ : ∃ m, (D.f n).length = m := ⟨_, rfl⟩
    have hm2 := (hG n hn).1
    rw [hm] at es hm2
    have HM := Lib.hid hm
    clear hm
    go_wp2_with fail
    go_loopw [5, 6, 7] (fun i _ _ wr => ∃ k : Nat, k ≤ m ∧ i = .int .i64 k ∧ (∃ Xk, RAt ⟨stepF D.f n syncS k, left0, hal0⟩ wr (grow F w wr) gp s lf' Xk) ∧ Only (Hard F w) w wr) (fun i _ _ _ => m - (intOf i).toNat)
    case atStart => exact ⟨0, Nat.zero_le _, rfl, ⟨X, by rw [stepF_zero]; exact h1.mono fun b q => .inl q⟩, h2⟩
    case round =>
      clear h1 h2
      obtain ⟨k, hk, rfl, ⟨Xk, hd⟩, hO⟩ := hrel
      have c0 := hd.cellF hn
      rw [es] at c0
      rcases Nat.lt_or_ge k m with hlt | hge
      · have e1 : decide ((k : Int) < (m : Int)) = true := by rw [decide_eq_true_iff]; omega
        have e2 : (0 : Int) ≤ (k : Int) := by omega
        have e3 : (k : Int) < (m : Int) := by omega
        have hkl0 : k < (D.f n).length := by rw [HM.out]; exact hlt
        have hkl : k < (stepF D.f n syncS k n).length := by rw [stepF_length]; exact hkl0
        have hAt := stepF_at D.f n syncS hkl0 hkl
        have hln : (stepF D.f n syncS k n).length = m := by rw [stepF_length, HM.out]
        have hnx := stepF_next D.f n syncS hkl0
        have hgk : (⟨stepF D.f n syncS k, left0, hal0⟩ : DevP).good N := fun q hq => by
          refine ⟨by show (stepF D.f n syncS k q).length ≤ _; rw [stepF_length]; exact (hG q hq).1, fun sc hsc => ?_⟩
          have hsc' : sc ∈ stepF D.f n syncS k q := hsc
          unfold stepF at hsc'
          split at hsc'
          · obtain ⟨i, hi, rfl⟩ := List.mem_mapIdx.1 hsc'
            obtain ⟨q1, q2, q3⟩ := hG.at_ hq hi
            split
            · exact ⟨newest_128 q1 q3, Nat.zero_le _, fun x hx => by cases hx⟩
            · exact ⟨q1, q2, q3⟩
          · exact (hG q hq).2 sc hsc'
        have hrd := rread_some hd hgk hN hn hkl
        rw [show (DevP.f ⟨stepF D.f n syncS k, left0, hal0⟩ n)[k]'hkl = (D.f n)[k] from hAt] at hrd
        obtain ⟨q1, q2, q3⟩ := hG.at_ hn hkl0
        have hn128 := newest_128 q1 q3
        have es' : s n = .slice A (stepF D.f n syncS k n).length c := by rw [hln]; exact es
        have hrow := (hd.file n hn).1
        rw [es] at hrow
        obtain ⟨g, rfl, hg0, hgl⟩ := own_pos (n := m) (by rw [show (DevP.f ⟨stepF D.f n syncS k, left0, hal0⟩ n).length = m from hln] at hrow; exact hrow) (by omega)
        have hHg := hH g 0 rfl
        generalize hnl : (D.f n)[k].newest = nl at *
        have hwr := hO.size
        have post : ∀ w2, Below wr.heap.size wr w2 → ∀ (A2 : Option Addr) (c2 : Nat), w2.ownsRow wr.heap.size 5 1 (.slice A2 128 c2) 128 (nl.map byteV) → Small nl →
            (∃ Xk, RAt ⟨stepF D.f n syncS (k + 1), left0, hal0⟩ ((w2.setCell ⟨g, k * 2, none⟩ (.slice A2 128 c2)).setCell ⟨g, k * 2 + 1, none⟩ (.slice none 0 0)) (grow F w ((w2.setCell ⟨g, k * 2, none⟩ (.slice A2 128 c2)).setCell ⟨g, k * 2 + 1, none⟩ (.slice none 0 0))) gp s lf' Xk) ∧
            Only (Hard F w) w ((w2.setCell ⟨g, k * 2, none⟩ (.slice A2 128 c2)).setCell ⟨g, k * 2 + 1, none⟩ (.slice none 0 0)) := fun w2 hb A2 c2 ho2 hs2 => by
          have hszz : ((w2.setCell ⟨g, k * 2, none⟩ (.slice A2 128 c2)).setCell ⟨g, k * 2 + 1, none⟩ (.slice none 0 0)).heap.size = w2.heap.size := by simp [World.setCell]
          have hgr : ∀ b, grow F w wr b → grow F w w2 b := fun b z => z.imp id fun y => ⟨y.1, Nat.lt_of_lt_of_le y.2 hb.size⟩
          have hd2 := hd.grown hb hgr
          have htx : Txt w2 (grow F w w2) (.slice A2 128 c2) nl := Txt.own ho2 hn128 hs2 fun b e => .inr ⟨Nat.le_trans hwr (ho2.lt b e).1, (ho2.lt b e).2⟩
          have := hd2.set2 hn hkl es' htx fun b z => z
          rw [Nat.mul_comm 2 k] at this
          have hp : (DevP.put ⟨stepF D.f n syncS k, left0, hal0⟩ n k ⟨nl, []⟩) = ⟨stepF D.f n syncS (k + 1), left0, hal0⟩ := by
            unfold DevP.put
            rw [← hnx]
            unfold syncS
            rw [hnl]
          rw [hp] at this
          refine ⟨⟨_, by unfold grow; rw [hszz]; exact this⟩, ?_⟩
          exact ((hO.trans (Only.of_below hb (fun _ => False)) fun _ z => z.elim).setCell (p := ⟨g, k * 2, none⟩) (.inl hHg.1) _).setCell (p := ⟨g, k * 2 + 1, none⟩) (.inl hHg.1) _
        have POST := Lib.hid post
        have hgl' : g < wr.heap.size := Nat.lt_of_lt_of_le hHg.2.1 hwr
        rw [show (DevP.f ⟨stepF D.f n syncS k, left0, hal0⟩ n).length = m from hln] at hrow
        have hXl : (Xk n).length = m * 2 := hrow.1
        obtain ⟨vc0, hv0⟩ : ∃ v, wr.cell? ⟨g, k * 2, none⟩ = some v := ⟨_, (hrow.cellAt (k * 2) (by omega)).trans (List.getElem?_eq_getElem (by omega))⟩
        obtain ⟨vc1, hv1⟩ : ∃ v, wr.cell? ⟨g, k * 2 + 1, none⟩ = some v := ⟨_, (hrow.cellAt (k * 2 + 1) (by omega)).trans (List.getElem?_eq_getElem (by omega))⟩
        have hf0 := hrow.frozenAt (k * 2)
        have hf1 := hrow.frozenAt (k * 2 + 1)
        have hgpl := hd.blk.lt
        clear post hd hnx hrow es' hgk hAt hln hkl q1 q2 q3 hnl hkl0
        go_wp2_with fail
        refine hrd.mono ?_
        rintro e w2 ⟨A2, c2, rfl, o2, b2, s2⟩
        rw [hn128] at o2 ⊢
        have P2 := Lib.hid (POST.out w2 b2 A2 c2 o2 s2)
        have c0' := (b2.cell (p := ⟨gp, n, none⟩) hgpl).trans c0
        have hv0' := (b2.cell (p := ⟨g, k * 2, none⟩) hgl').trans hv0
        have hv1' := (b2.cell (p := ⟨g, k * 2 + 1, none⟩) hgl').trans hv1
        have hf0' := (b2.frozen (p := ⟨g, k * 2, none⟩) hgl').trans hf0
        have hf1' := (b2.frozen (p := ⟨g, k * 2 + 1, none⟩) hgl').trans hf1
        clear hrd o2 b2 c0 hv0 hv1 hf0 hf1
        go_wp2
        go_roundw
        case rel => exact ⟨k + 1, by omega, by go_num, P2.out⟩
        case measure => simp [intOf]; omega
      · obtain rfl : k = m := by omega
        have e1 : decide ((k : Int) < (k : Int)) = false := by rw [decide_eq_false_iff_not]; omega
        have hfin : RPost { (⟨D.f, left0, hal0⟩ : DevP) with f := mapF D n syncS } F (.pointer (some ⟨gp, 0, none⟩)) w wr := by
          rw [stepF_all D.f n syncS HM.out.symm] at hd
          exact ⟨⟨gp, s, lf', Xk, rfl, hd⟩, hO.mono fun b q => .inl q.1⟩
        have HFIN := Lib.hid hfin
        clear hfin hd hO
        go_wp2
        go_end0
        exact ⟨rfl, HFIN.out⟩
theorem rsync_any (h : IsRDev D w F p) (hF : ∀ b, F b → b < w.heap.size) {N : Nat} (hG : D.good N) (hN : N ≤ 100000) (n : Nat) (hn : n < 256) :
    Calls Tryz.prog 89 #[p, .int .u8 n] w fun e w' => e = .returned (.tuple #[]) ∧ RPost (D.sync n) F p w w' := by
  have hp := h
  obtain ⟨gp, s, lf, X, rfl, h'⟩ := hp
  by_cases hh : n < 2
  · exact rsync_some h' hF hG hN hh
  · have e1 : D.sync n = D := if_neg hh
    rw [e1]
    have hlt : decide ((1 : Int) < (n : Int)) = true := by rw [decide_eq_true_iff]; omega
    have FIN := Lib.hid (RPost.refl h)
    clear h h' e1
    go_enter Tryz.func89, Tryz.ntmps89
    go_wp2
    refine bodyPost_ret (results_none rfl _ _ _) rfl ?_
    exact ⟨rfl, FIN.out⟩
end
theorem rwrite_any {D : DevP} {w : World} {F : Nat → Prop} {p : Value} (h : IsRDev D w F p) (hF : ∀ b, F b → b < w.heap.size) {N : Nat} (hG : D.good N) (hN : N ≤ 100000) (n : Nat) (hn : n < 256) (i : Int) (A : Option Addr) (c : Nat) (l : List Nat) (hl : BytesIn w (fun b => ¬ F b) A l) :
    Calls Tryz.prog 88 #[p, .int .u8 n, .int .i64 i, .slice A l.length c] w fun e w' => e = .returned (.int .i64 ((D.write n i l).1 : Nat)) ∧ RPost (D.write n i l).2 F p w w' := by
  have hp := h
  obtain ⟨gp, s, lf, X, rfl, h'⟩ := hp
  by_cases hh : D.has n i
  · obtain ⟨h1, h2, h3⟩ := hh
    obtain ⟨k, rfl⟩ := Int.eq_ofNat_of_zero_le h2
    have hk : k < (D.f n).length := by omega
    by_cases hl8 : l.length = 128
    · have e1 : (D.write n (k : Nat) l).1 = 0 := by
        unfold DevP.write
        rw [if_pos ⟨h1, h2, h3⟩, if_pos hl8]
      rw [e1]
      exact rwrite_some h hF hG hN h1 hk A c l hl hl8
    · have e1 : D.write n (k : Nat) l = (1, D) := by
        unfold DevP.write
        rw [if_pos ⟨h1, h2, h3⟩, if_neg hl8]
      rw [e1]
      have hno := none_yes h' h1 hk (hG n h1).1
      have FIN := Lib.hid (RPost.refl h)
      have hne : ((l.length : Int) != 128) = true := by rw [bne_iff_ne]; omega
      clear h h' e1 hl
      go_enter Tryz.func88, Tryz.ntmps88
      go_wp2_with fail
      refine hno.mono ?_
      rintro e w1 ⟨rfl, rfl⟩
      go_wp2
      go_ret
      exact ⟨rfl, FIN.out⟩
  · have e1 : D.write n i l = (50, D) := by
      unfold DevP.write
      rw [if_neg hh]
    rw [e1]
    have hno := none_no h' n hn i hh
    have FIN := Lib.hid (RPost.refl h)
    clear h h' e1 hl hh
    go_enter Tryz.func88, Tryz.ntmps88
    go_wp2_with fail
    refine hno.mono ?_
    rintro e w1 ⟨rfl, rfl⟩
    go_wp2
    go_ret
    exact ⟨rfl, FIN.out⟩
section
variable {D : DevP} {w : World} {F : Nat → Prop} {p : Value} {gp : Nat} {s : Nat → Value} {lf : Int} {X : Nat → List Value}
set_option maxHeartbeats 1000000 in
theorem rimage_some (h : RAt D w F gp s lf X) {N : Nat} (hG : D.good N) {n : Nat} (hn : n < 2) :
    Calls Tryz.prog 97 #[.pointer (some ⟨gp, 0, none⟩), .int .u8 n] w (RetRows (D.image n) w) := by
  obtain ⟨i0, hi0, hz0, hz1, hz2⟩ := info_parts row_info
  obtain ⟨Aq, cq, es, -, -⟩ := own_form (h.file n hn).1
  have hc0 := h.cellF hn
  rw [es] at hc0
  have hgpl := h.blk.lt
  have hD : D.image n = (D.f n).map Sect.last := if_pos hn
  rw [hD]
  have hm2 := (hG n hn).1
  have hcell : ∀ k (hk : k < (D.f n).length), ∃ g lw, Aq = some ⟨g, 0, none⟩ ∧ g < w.heap.size ∧ w.cell? ⟨g, k * 2, none⟩ = some lw ∧ Txt w F lw (D.f n)[k].last := fun k hk => by
    obtain ⟨g, c', lw, wv, es', q0, q1, ht, hW, -, hg, -, -⟩ := h.toFilesAt.sector hn hk
    rw [es] at es'
    injection es' with e1 _ _
    rw [Nat.mul_comm 2 k] at q0
    exact ⟨g, lw, e1, hg, q0, ht⟩
  have h128 : ∀ k (hk : k < (D.f n).length), (D.f n)[k].last.length = 128 := fun k hk => (hG.at_ hn hk).1
  have hlt : decide ((1 : Int) < (n : Int)) = false := by rw [decide_eq_false_iff_not]; omega
  have e4 : (0 : Int) ≤ (n : Int) := by omega
  have e5 : (n : Int) < 2 := by omega
  clear h es hG hD
  generalize D.f n = ss at *
  go_enter Tryz.func97, Tryz.ntmps97
  go_wp2_with fail
  go_loopw [5, 6] (fun v i wr => ∃ (k : Nat) (L : List Value), k ≤ ss.length ∧ i = .int .i64 k ∧ wr.ownsRow w.heap.size 45 1 v k L ∧ Rows wr w.heap.size L ((ss.map Sect.last).take k) ∧ Below w.heap.size w wr) (fun _ i _ => ss.length - (intOf i).toNat)
  case atStart => exact ⟨0, [], by omega, rfl, World.ownsRow_nil _ _ _ _, by rw [List.take_zero]; exact Rows.nil _ _, Below.refl _ _⟩
  case round =>
    obtain ⟨k, L, hk, rfl, hown, hr, hb⟩ := hrel
    obtain ⟨A0, c0, rfl, -, -⟩ := own_form hown
    have hc1 := (hb.cell (p := ⟨gp, n, none⟩) hgpl).trans hc0
    rcases Nat.lt_or_ge k ss.length with hlt | hge
    · have e1 : decide ((k : Int) < (ss.length : Int)) = true := by rw [decide_eq_true_iff]; omega
      have e2 : (0 : Int) ≤ (k : Int) := by omega
      have e3 : (k : Int) < (ss.length : Int) := by omega
      obtain ⟨g, lw, rfl, hgw, q0, ht⟩ := hcell k hlt
      have hl := h128 k hlt
      have p0 := (hb.cell (p := ⟨g, k * 2, none⟩) hgw).trans q0
      have ht2 := ht.only (Only.of_below hb (fun _ => False)) fun _ _ _ z => z
      obtain ⟨A1, c1, rfl, hc1', hb1⟩ := ht2.bytes
      have htk : (ss.map Sect.last).take (k + 1) = (ss.map Sect.last).take k ++ [ss[k].last] := by rw [List.take_succ_eq_append_getElem (by simpa using hlt), List.getElem_map]
      generalize ss[k].last = x at *
      rw [hl] at p0
      have hcl := rlent_any A1 c1 x wr.heap.size wr hb1 (by omega)
      rw [hl] at hcl
      have HTK := Lib.hid htk
      have hwr := hb.size
      clear htk hcell h128 ht ht2 hb1 q0 hc0
      go_wp2_with fail
      refine hcl.mono ?_
      rintro e w2 ⟨A2, c2, rfl, ho2, hb2, hs2⟩
      rw [hl] at ho2 ⊢
      have hown2 := kept_none (below_none hb2) hown
      have hw2 := hb2.size
      clear hcl
      go_wp2_with (at_builtin; refine wpList_append_at2 rfl _ _ 22 22 rfl w.heap.size 45 i0 _ 24 Tryz.underlying22 Tryz.underlying22 hi0 hz0 hz1 hz2 rfl (.slice A0 k c0) k L rfl (hown2.alloc _) (w2.heap.size + 1) (some ⟨w2.heap.size, 0, none⟩) 1 1 [.slice A2 128 c2] rfl rfl (At.new w2 [.slice A2 128 c2] 45 (0, 0)) (by simp [Value.oneCell']) (by unfold maxLen; omega) (by omega) (by rw [World.size_alloc]; omega) ?_; intro A5 c5 w5 hown5 hg5 hat5; have HM := Lib.hid (rows_more hb hown hr hb2 ho2 hl hs2 hown5 hg5); have ho5 := Lib.hid hown5; clear hown5 hat5)
      go_roundw
      case rel => exact ⟨k + 1, _, by omega, by go_num, ho5.out, by rw [HTK.out]; exact HM.out.1, HM.out.2⟩
      case measure => simp [intOf]; omega
    · obtain rfl : k = ss.length := by omega
      have e1 : decide ((ss.length : Int) < (ss.length : Int)) = false := by rw [decide_eq_false_iff_not]; omega
      rw [List.take_of_length_le (by simp)] at hr
      clear hcell h128
      go_wp2
      go_ret
      exact ⟨A0, c0, L, ret_slice (by simp), by simpa using hown, hr, hb⟩
theorem rimage_any (h : IsRDev D w F p) {N : Nat} (hG : D.good N) (n : Nat) (hn : n < 256) :
    Calls Tryz.prog 97 #[p, .int .u8 n] w (RetRows (D.image n) w) := by
  obtain ⟨gp, s, lf, X, rfl, h⟩ := h
  by_cases hh : n < 2
  · exact rimage_some h hG hh
  · have hD : D.image n = [] := if_neg (by omega)
    rw [hD]
    have hlt : decide ((1 : Int) < (n : Int)) = true := by rw [decide_eq_true_iff]; omega
    clear h hD
    go_enter Tryz.func97, Tryz.ntmps97
    go_wp2
    go_ret
    exact ⟨none, 0, [], rfl, World.ownsRow_nil _ _ _ _, Rows.nil _ _, Below.refl _ _⟩
end
end Go.Proofs.YtkganajbilnanaaGreat
