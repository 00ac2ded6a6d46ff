/- disk: Crash. Conditions: the device lies there. -/
import Derived.Test.YtnbbneldbagohaaDiskFind
namespace Go.Proofs.Ytnbbneldbagohaa
open Go.ChangeShapes Go.WideShapes Go.ChangeAt Go.RowKit
set_option linter.unusedVariables false
set_option linter.unusedSimpArgs false
set_option maxRecDepth 20000

def crashG (l : List FateP) (n : Nat) (k : Nat) (s : Sect) : Sect := s.crash (fateFor l n k)
/-- the files below q are crashed -/
def crashF (f : Nat → List Sect) (l : List FateP) (q m : Nat) : List Sect := if m < q then (f m).mapIdx (crashG l m) else f m
theorem crashF_zero (f : Nat → List Sect) (l : List FateP) : crashF f l 0 = f := by
  funext m
  exact if_neg (by omega)
theorem crashF_length (f : Nat → List Sect) (l : List FateP) (q m : Nat) : (crashF f l q m).length = (f m).length := by
  unfold crashF
  split
  · rw [List.length_mapIdx]
  · rfl
theorem crashF_at (f : Nat → List Sect) (l : List FateP) (q : Nat) : crashF f l q q = f q := if_neg (by omega)
theorem crashF_next (f : Nat → List Sect) (l : List FateP) (q k : Nat) (hk : k = (f q).length) : stepF (crashF f l q) q (crashG l q) k = crashF f l (q + 1) := by
  rw [stepF_all _ _ _ (by rw [crashF_length]; exact hk)]
  funext m
  by_cases e : m = q
  · subst e
    rw [if_pos rfl, crashF_at]
    exact (if_pos (by omega)).symm
  · rw [if_neg e]
    unfold crashF
    by_cases h : m < q
    · rw [if_pos h, if_pos (by omega)]
    · rw [if_neg h, if_neg (by omega)]
theorem idxI_ge (l : List FateP) (n k : Nat) : -1 ≤ idxI l n k := by
  unfold idxI
  split <;> omega
theorem FatesAt.only {w w' : World} {S : Nat → Prop} {B : Nat} {A : Option Addr} {l : List FateP} (h : FatesAt w B A l) (ho : Only S w w') (hs : ∀ b o, A = some ⟨b, o, none⟩ → 0 < l.length → ¬ S b) (hB : B ≤ w.heap.size := by exact Nat.le_refl _) : FatesAt w' B A l :=
  ⟨fun j hj => by
    obtain ⟨b, o, e, hb, hc⟩ := h.1 j hj
    exact ⟨b, o, e, hb, (ho.cell (p := ⟨b, o + j, none⟩) (Nat.lt_of_lt_of_le hb hB) (hs b o e (by have := flat_length l; omega))).trans hc⟩, h.2⟩
theorem fateFor_cells (l : List FateP) (n k : Nat) : (fateFor l n k) = ⟨(fateFor l n k).file, (fateFor l n k).sector, (fateFor l n k).keep, (fateFor l n k).torn⟩ := rfl
section
variable {D : DevP} {w : World} {F : Nat → Prop} {gp : Nat} {s : Nat → Value} {lv : Value} {X : Nat → List Value}
/-- both stores at the head -/
theorem DevAt.calm (h : DevAt D w F gp s lv X) : DevAt ⟨D.f, none, false⟩ ((w.setCell ⟨gp, 2, none⟩ (.pointer none)).setCell ⟨gp, 3, none⟩ (.bool false)) F gp s (.pointer none) X ∧ Only (Hard F w) w ((w.setCell ⟨gp, 2, none⟩ (.pointer none)).setCell ⟨gp, 3, none⟩ (.bool false)) := by
  have ho : Only (fun b => b = gp) w ((w.setCell ⟨gp, 2, none⟩ (.pointer none)).setCell ⟨gp, 3, none⟩ (.bool false)) := ((Only.refl (fun b => b = gp) w).setCell (p := ⟨gp, 2, none⟩) (.inl rfl) _).setCell (p := ⟨gp, 3, none⟩) (.inl rfl) _
  have hfar : Far w 70 (fun b => b = gp) := fun b q hb => by
    subst q
    exact ⟨_, h.blk.ty, by decide, by decide, by decide⟩
  exact ⟨⟨h.toFilesAt.far ho hfar, (h.blk.set_ 2 _).set_ 3 _, h.inF, rfl⟩, ho.mono fun b q => .inl (by subst q; exact ⟨h.inF, fun hu => absurd (hu.uniq' h.blk.ty) (by decide)⟩)⟩
theorem DevAt.grown (h : DevAt D w F gp s lv X) {w' : World} {F' : Nat → Prop} (hb : Below w.heap.size w w') (hF : ∀ b, F b → F' b) : DevAt D w' F' gp s lv X := by
  have ho : Only (fun _ => False) w w' := Only.of_below hb _
  exact ⟨(h.toFilesAt.only ho fun _ _ q => q).mono hF, h.blk.only ho fun q => q, hF _ h.inF, (h.left.only ho fun _ _ q => q).mono hF⟩
set_option maxHeartbeats 2000000 in
theorem crash_some (h : DevAt D w F gp s lv X) (hF : ∀ b, F b → b < w.heap.size) {N : Nat} (hG : D.good N) (hN : N ≤ 100000) (A : Option Addr) (c : Nat) (l : List FateP) (hl : FatesAt w w.heap.size A l) (hlF : ∀ b o, A = some ⟨b, o, none⟩ → 0 < l.length → ¬ F b) (hln : l.length ≤ 100000) :
    Calls Try.prog 13 #[.pointer (some ⟨gp, 0, none⟩), .slice A l.length c] w fun e w' => e = .returned (.tuple #[]) ∧ DevPost (D.crash l) F (.pointer (some ⟨gp, 0, none⟩)) w w' := by
  have z2 := h.blk.frozen 2
  have z3 := h.blk.frozen 3
  have z4 := h.blk.cell 2
  have z5 := h.blk.cell 3
  have hgw := h.blk.lt
  obtain ⟨hc, hco⟩ := h.calm
  have hrows : ∀ n, n < 2 → ∃ A c, s n = .slice A (D.f n).length c ∧ ∀ g o, A = some ⟨g, o, none⟩ → o = 0 ∧ g < w.heap.size ∧ Hard F w g := fun n hn => by
    have ho := (h.file n hn).1
    have hFn := (h.file n hn).2.1
    obtain ⟨A, c, e, -, -⟩ := own_form ho
    refine ⟨A, c, e, fun g o eA => ?_⟩
    subst eA
    rw [e] at ho
    rcases ho.2 with ⟨e', _⟩ | ⟨g', cap, cur, e', _⟩
    · cases e'
    · injection e' with e' _ _
      injection e' with e'
      injection e' with e1 e2
      exact ⟨e2, (ho.lt g rfl).2, hFn g (by rw [e]; rfl), fun hu => absurd (hu.uniq' (own_ty ho rfl)) (by decide)⟩
  clear h
  go_enter Try.func13, Try.ntmps13
  go_wp2_with fail
  go_loopw [14, 4, 5, 6, 7] (fun i _ _ _ _ wr => ∃ q : Nat, q ≤ 2 ∧ i = .int .i64 q ∧ (∃ Xk, DevAt ⟨crashF D.f l q, none, false⟩ wr (grow F w wr) gp s (.pointer none) Xk) ∧ Only (Hard F w) w wr) (fun i _ _ _ _ _ => 2 - (intOf i).toNat)
  case atStart => exact ⟨0, by omega, rfl, ⟨X, by rw [crashF_zero]; exact hc.grown (Below.refl _ _) fun b q => .inl q⟩, hco⟩
  case round =>
    clear hc hco z2 z3 z4 z5
    obtain ⟨q, hq, rfl, ⟨Xq, hd⟩, hO⟩ := hrel
    rcases Nat.lt_or_ge q 2 with hlt | hge
    · have e1 : decide ((q : Int) < 2) = true := by rw [decide_eq_true_iff]; omega
      have e2 : (0 : Int) ≤ (q : Int) := by omega
      have e3 : (q : Int) < 2 := by omega
      obtain ⟨Aq, cq, es, hgq⟩ := hrows q hlt
      have hOs := hO.size
      have hcq : ∀ W, Below wr.heap.size wr W → W.cell? ⟨gp, q, none⟩ = some (s q) := fun W hW => by
        refine (hW.cell (p := ⟨gp, q, none⟩) hd.blk.lt).trans ((hd.blk.cell q).trans ?_)
        rcases (show q = 0 ∨ q = 1 from by omega) with rfl | rfl <;> rfl
      have cq1 := hcq _ (((Below.refl wr.heap.size wr).alloc (Nat.le_refl _) (.cells #[.int .i64 q] 3)))
      rw [es] at cq1
      go_wp2_with fail
      go_quiet (fail)
      generalize hW0 : World.drewN _ _ = W0
      have hbW : Below wr.heap.size wr W0 := by rw [← hW0]; exact below_drewN ((Below.refl _ _).alloc (Nat.le_refl _) _) _
      have hk4 : Blk W0 wr.heap.size 3 #[.int .i64 q] := by rw [← hW0]; exact (Blk.new wr 3 #[.int .i64 q]).drewN _
      clear hW0
      have hgr : ∀ b, grow F w wr b → grow F w W0 b := fun b z => z.imp id fun y => ⟨y.1, Nat.lt_of_lt_of_le y.2 hbW.size⟩
      have hd0 := hd.grown hbW hgr
      have hO0 : Only (Hard F w) w W0 := hO.trans (Only.of_below hbW (fun _ => False)) fun _ z => z.elim
      have hcq0 := fun W (hW : Below W0.heap.size W0 W) => hcq W (hbW.trans (hW.mono hbW.size))
      clear hcq cq1 hd hO
      obtain ⟨b4, hb4⟩ : ∃ b4, wr.heap.size = b4 := ⟨_, rfl⟩
      rw [hb4] at hk4 ⊢
      have hb4w : w.heap.size ≤ b4 := by rw [← hb4]; exact hOs
      clear hgr hbW hb4
      obtain ⟨m, hm⟩ : ∃ m, (D.f q).length = m := ⟨_, rfl⟩
      have hm2 := (hG q hlt).1
      rw [hm] at es hm2
      rw [hm]
      have HM := Lib.hid hm
      clear hm
      go_wp2_with fail
      go_loopw [24, 5, 6, 7] (fun i _ _ _ wr => ∃ k : Nat, k ≤ m ∧ i = .int .i64 k ∧ (∃ Xk, DevAt ⟨stepF (crashF D.f l q) q (crashG l q) k, none, false⟩ wr (grow F w wr) gp s (.pointer none) Xk) ∧ Only (Hard F w) w wr ∧ Blk wr b4 3 #[.int .i64 q]) (fun i _ _ _ _ => m - (intOf i).toNat)
      case atStart => exact ⟨0, Nat.zero_le _, rfl, ⟨Xq, by rw [stepF_zero]; exact hd0⟩, hO0, hk4⟩
      case round =>
        clear hd0 hO0 hk4 hcq0
        obtain ⟨k, hk, rfl, ⟨Xk, hd⟩, hO, hk4⟩ := hrel
        rcases Nat.lt_or_ge k m with hlt2 | hge
        · have e4 : decide ((k : Int) < (m : Int)) = true := by rw [decide_eq_true_iff]; omega
          have hlr := hl.only hO (fun b o e hl0 => fun z => hlF b o e hl0 z.1)
          have k5 := Blk.new wr 3 #[.int .i64 k]
          have k6 := Blk.new (wr.alloc (.cells #[.int .i64 k] 3)) 24 #[.int .u8 0, .int .i64 0, .int .i64 0, .int .i64 0]
          have hbW : Below wr.heap.size wr ((wr.alloc (.cells #[.int .i64 k] 3)).alloc (.cells #[.int .u8 0, .int .i64 0, .int .i64 0, .int .i64 0] 24)) := ((Below.refl _ _).alloc (Nat.le_refl _) _).alloc (by simp) _
          replace k5 := k5.alloc (.cells #[.int .u8 0, .int .i64 0, .int .i64 0, .int .i64 0] 24)
          rw [World.size_alloc] at k6
          have k4 := hk4.below hbW hk4.lt
          have hOs := hO.size
          have hlW := hlr.below (hbW.mono hOs)
          have h4w := hk4.lt
          go_wp2_with fail
          generalize World.alloc (World.alloc wr _) _ = W0 at *
          have hi := index_any A c l _ W0 hlW (Nat.le_trans hOs hbW.size) hln q k (by omega) (by omega) b4 wr.heap.size (k4.cell 0) (k5.cell 0) k4.lt k5.lt
          refine hi.mono ?_
          rintro e W1 ⟨rfl, hb1⟩
          have hb2 : Below wr.heap.size wr W1 := hbW.trans (hb1.mono hbW.size)
          replace k4 := k4.below hb1 k4.lt
          replace k5 := k5.below hb1 k5.lt
          replace k6 := k6.below hb1 k6.lt
          replace hlW := hlW.below (hb1.mono (Nat.le_trans hOs hbW.size))
          clear hi hb1 hbW hlr
          clear W0
          have hfa := fate_of_idx l q k
          have hgI := idxI_ge l q k
          generalize hix : idxI l q k = ix at *
          clear hix
          go_upto_if 31 with (fail)
          go_cut [] (fun wx => ∃ fl : Nat, Blk wx (wr.heap.size + 1) 24 #[.int .u8 fl, .int .i64 (fateFor l q k).sector, .int .i64 (fateFor l q k).keep, .int .i64 (fateFor l q k).torn] ∧ Blk wx b4 3 #[.int .i64 q] ∧ Blk wx wr.heap.size 3 #[.int .i64 k] ∧ Below wr.heap.size wr wx)
          case first =>
            rcases hfa with ⟨h1, h2⟩ | ⟨i, hi, h1, h2⟩
            · subst h1
              have H2 := Lib.hid h2
              clear h2 hgI
              go_wp2
              go_meet
              case rel => exact ⟨0, by rw [H2.out]; exact k6, k4, k5, hb2⟩
            · subst h1
              obtain ⟨b, o, eA, hbB, x0, x1, x2, x3, hx⟩ := hlW.at_ hi
              subst eA
              rw [Nat.mul_comm 4 i] at x0 x1 x2 x3
              have z1 : decide ((0 : Int) ≤ (i : Int)) = true := by rw [decide_eq_true_iff]; omega
              have z2 : (0 : Int) ≤ (i : Int) := by omega
              have z3 : (i : Int) < (l.length : Int) := by omega
              have H2 := Lib.hid h2
              clear h2 hgI hlW
              generalize l[i] = x at *
              obtain ⟨fl, st, kp, tn⟩ := x
              simp only at x0 x1 x2 x3 hx
              have g0 := k6.frozen 0
              have g1 := k6.frozen 1
              have g2 := k6.frozen 2
              have g3 := k6.frozen 3
              have y0 := k6.cell 0
              have y1 := k6.cell 1
              have y2 := k6.cell 2
              have y3 := k6.cell 3
              have fin6 := (((k6.set_ 0 (.int .u8 fl)).set_ 1 (.int .i64 st)).set_ 2 (.int .i64 kp)).set_ 3 (.int .i64 tn)
              have h54 : b4 ≠ wr.heap.size + 1 := by omega
              have fin4 := (((k4.far (p := ⟨wr.heap.size + 1, 0, none⟩) h54 (.int .u8 fl)).far (p := ⟨wr.heap.size + 1, 1, none⟩) h54 (.int .i64 st)).far (p := ⟨wr.heap.size + 1, 2, none⟩) h54 (.int .i64 kp)).far (p := ⟨wr.heap.size + 1, 3, none⟩) h54 (.int .i64 tn)
              have h55 : wr.heap.size ≠ wr.heap.size + 1 := by omega
              have fin5 := (((k5.far (p := ⟨wr.heap.size + 1, 0, none⟩) h55 (.int .u8 fl)).far (p := ⟨wr.heap.size + 1, 1, none⟩) h55 (.int .i64 st)).far (p := ⟨wr.heap.size + 1, 2, none⟩) h55 (.int .i64 kp)).far (p := ⟨wr.heap.size + 1, 3, none⟩) h55 (.int .i64 tn)
              have h56 : wr.heap.size ≤ wr.heap.size + 1 := by omega
              have finb := (((hb2.setCell (p := ⟨wr.heap.size + 1, 0, none⟩) h56 (.int .u8 fl)).setCell (p := ⟨wr.heap.size + 1, 1, none⟩) h56 (.int .i64 st)).setCell (p := ⟨wr.heap.size + 1, 2, none⟩) h56 (.int .i64 kp)).setCell (p := ⟨wr.heap.size + 1, 3, none⟩) h56 (.int .i64 tn)
              simp only [List.setIfInBounds_toArray, List.set_cons_succ, List.set_cons_zero] at fin6
              have FIN := Lib.hid (And.intro fin6 (And.intro fin4 (And.intro fin5 finb)))
              clear fin6 fin4 fin5 finb h54 h55 h56 k4 k5 k6 hb2
              go_wp2
              go_meet
              case rel => exact ⟨fl, by rw [H2.out]; exact FIN.out.1, FIN.out.2.1, FIN.out.2.2.1, FIN.out.2.2.2⟩
          case rest =>
            obtain ⟨fl, k6', k4', k5', hb⟩ := hcut
            clear k4 k5 k6 hb2 hfa hlW hk4
            have hgr : ∀ b, grow F w wr b → grow F w wc b := fun b z => z.imp id fun y => ⟨y.1, Nat.lt_of_lt_of_le y.2 hb.size⟩
            have hdc := hd.grown hb hgr
            clear hgr
            have hOc : Only (Hard F w) w wc := hO.trans (Only.of_below hb (fun _ => False)) fun _ z => z.elim
            have hk0 : k < (D.f q).length := by rw [HM.out]; exact hlt2
            have hkc : k < (crashF D.f l q q).length := by rw [crashF_at]; exact hk0
            have hkl : k < (stepF (crashF D.f l q) q (crashG l q) k q).length := by rw [stepF_length]; exact hkc
            have hAt : (stepF (crashF D.f l q) q (crashG l q) k q)[k] = (D.f q)[k] := by rw [stepF_at _ _ _ hkc hkl]; congr 1; exact crashF_at _ _ _
            have hnx := stepF_next (crashF D.f l q) q (crashG l q) hkc
            rw [show (crashF D.f l q q)[k] = (D.f q)[k] by congr 1; exact crashF_at _ _ _] at hnx
            obtain ⟨g, c', lw, wv, es', qc0, qc1, ht, hW, -, -, -, -⟩ := sector_at hdc hlt hkl
            rw [show (DevP.f ⟨stepF (crashF D.f l q) q (crashG l q) k, none, false⟩ q)[k]'hkl = (D.f q)[k] from hAt] at ht hW
            have es2 := es'
            rw [es] at es'
            injection es' with q1 q2 q3
            subst q1
            subst q3
            clear q2
            obtain ⟨r1, r2, r3⟩ := hG.at_ hlt hk0
            have hgw : g < w.heap.size := (hgq g 0 rfl).2.1
            have hgH := (hgq g 0 rfl).2.2
            have hgwc : g < wc.heap.size := Nat.lt_of_lt_of_le hgw hOc.size
            have hcr : ∀ W, Below wc.heap.size wc W → Calls Try.prog 37 #[.pointer (some ⟨g, k * 2, none⟩), .agg #[.int .u8 fl, .int .i64 (fateFor l q k).sector, .int .i64 (fateFor l q k).keep, .int .i64 (fateFor l q k).torn]] W fun e w' => ∃ A c, e = .returned (.agg #[.slice A 128 c, .slice none 0 0]) ∧ w'.ownsRow W.heap.size 5 1 (.slice A 128 c) 128 ((crashG l q k (D.f q)[k]).last.map byteV) ∧ Below W.heap.size W w' ∧ Small (crashG l q k (D.f q)[k]).last := fun W hWb => by
              rw [Nat.mul_comm k 2]
              exact crashS_any g (2 * k) lw wv (D.f q)[k] W (grow F w wc) ((hWb.cell (p := ⟨g, 2 * k, none⟩) hgwc).trans qc0) ((hWb.cell (p := ⟨g, 2 * k + 1, none⟩) hgwc).trans qc1) (Nat.lt_of_lt_of_le hgwc hWb.size) (ht.only (Only.of_below hWb (fun _ => False)) fun _ _ _ z => z) (hW.only (Only.of_below hWb (fun _ => False)) (fun _ _ _ z => z) fun _ _ z => z) r1 r3 (by omega) fl _ _ _
            have hgp : wc.cell? ⟨gp, q, none⟩ = some (.slice (some ⟨g, 0, none⟩) m cq) := by
              rw [← es]
              refine (hdc.blk.cell q).trans ?_
              rcases (show q = 0 ∨ q = 1 from by omega) with rfl | rfl <;> rfl
            have hrow := (hdc.file q hlt).1
            rw [es2] at hrow
            have h4c := k4'.cell 0
            have h5c := k5'.cell 0
            have h60 := k6'.cell 0
            have h61 := k6'.cell 1
            have h62 := k6'.cell 2
            have h63 := k6'.cell 3
            have hl128 := crash_128 r1 r3 (fateFor l q k)
            have hgpl := hdc.blk.lt
            have hgpg : ¬ gp = g := fun z => by subst z; exact absurd (hdc.blk.ty.uniq (own_ty hrow rfl)) (by decide)
            have n4 : ¬ b4 = g := by omega
            have n5 : ¬ wr.heap.size = g := by omega
            have n6 : ¬ wr.heap.size + 1 = g := by omega
            have h4l := k4'.lt
            have h5l := k5'.lt
            have h6l := k6'.lt
            generalize hsc : crashG l q k (D.f q)[k] = sc' at *
            have hl128' : sc'.last.length = 128 := by rw [← hsc]; exact hl128
            have hw0 : sc'.waits = [] := by rw [← hsc]; rfl
            have hnext : ∀ W, Below wc.heap.size wc W → ∀ (A2 : Option Addr) (c2 : Nat), W.ownsRow wc.heap.size 5 1 (.slice A2 128 c2) 128 (sc'.last.map byteV) → Small sc'.last →
                (∃ Xk, DevAt ⟨stepF (crashF D.f l q) q (crashG l q) (k + 1), none, false⟩ ((W.setCell ⟨g, k * 2, none⟩ (.slice A2 128 c2)).setCell ⟨g, k * 2 + 1, none⟩ (.slice none 0 0)) (grow F w ((W.setCell ⟨g, k * 2, none⟩ (.slice A2 128 c2)).setCell ⟨g, k * 2 + 1, none⟩ (.slice none 0 0))) gp s (.pointer none) Xk) ∧
                Only (Hard F w) w ((W.setCell ⟨g, k * 2, none⟩ (.slice A2 128 c2)).setCell ⟨g, k * 2 + 1, none⟩ (.slice none 0 0)) ∧ Blk ((W.setCell ⟨g, k * 2, none⟩ (.slice A2 128 c2)).setCell ⟨g, k * 2 + 1, none⟩ (.slice none 0 0)) b4 3 #[.int .i64 q] := fun W hWb A2 c2 ho2 hs2 => by
              have hsz := hWb.size
              have hszz : ((W.setCell ⟨g, k * 2, none⟩ (.slice A2 128 c2)).setCell ⟨g, k * 2 + 1, none⟩ (.slice none 0 0)).heap.size = W.heap.size := by simp [World.setCell]
              have hwc := hOc.size
              have hgr : ∀ b, grow F w wc b → grow F w W b := fun b z => z.imp id fun y => ⟨y.1, Nat.lt_of_lt_of_le y.2 hsz⟩
              have hdW := hdc.grown hWb hgr
              have htx : Txt W (grow F w W) (.slice A2 128 c2) sc'.last := Txt.own ho2 hl128' hs2 fun b e => .inr ⟨Nat.le_trans hwc (ho2.lt b e).1, (ho2.lt b e).2⟩
              have := hdW.set2 hlt hkl es2 htx fun b z => z
              rw [Nat.mul_comm 2 k] at this
              have hp : (DevP.put ⟨stepF (crashF D.f l q) q (crashG l q) k, none, false⟩ q k ⟨sc'.last, []⟩) = ⟨stepF (crashF D.f l q) q (crashG l q) (k + 1), none, false⟩ := by
                unfold DevP.put
                rw [← hnx, ← hw0]
              rw [hp] at this
              refine ⟨⟨_, by unfold grow; rw [hszz]; exact this⟩, ?_, ?_⟩
              · have hFg : Hard F w g := hgH
                exact ((hOc.trans (Only.of_below hWb (fun _ => False)) fun _ z => z.elim).setCell (p := ⟨g, k * 2, none⟩) (.inl hFg) _).setCell (p := ⟨g, k * 2 + 1, none⟩) (.inl hFg) _
              · exact ((k4'.below hWb k4'.lt).far (by show b4 ≠ g; omega) _).far (by show b4 ≠ g; omega) _
            have HNEXT := Lib.hid hnext
            have hf0 := hrow.frozenAt (k * 2)
            have hf1 := hrow.frozenAt (k * 2 + 1)
            rw [Nat.mul_comm 2 k] at qc0 qc1
            clear hnext hnx hdc hd ht hW hrow es2 hAt hl128 k4' k5' k6' hrows hG hsc r1 r2 r3 hl128' hw0 hkc hkl hk0 hgq
            generalize (fateFor l q k).sector = st at *
            generalize (fateFor l q k).keep = kp at *
            generalize (fateFor l q k).torn = tn at *
            have hS : Hid (∀ w', Only (fun b => b = g) wc w' → w'.cell? ⟨gp, q, none⟩ = some (.slice (some ⟨g, 0, none⟩) m cq) ∧ w'.cell? ⟨b4, 0, none⟩ = some (.int .i64 q) ∧ w'.cell? ⟨wr.heap.size, 0, none⟩ = some (.int .i64 k) ∧ w'.cell? ⟨wr.heap.size + 1, 0, none⟩ = some (.int .u8 fl) ∧ w'.cell? ⟨wr.heap.size + 1, 1, none⟩ = some (.int .i64 st) ∧ w'.cell? ⟨wr.heap.size + 1, 2, none⟩ = some (.int .i64 kp) ∧ w'.cell? ⟨wr.heap.size + 1, 3, none⟩ = some (.int .i64 tn)) := fun W hW => ⟨(hW.cell (p := ⟨gp, q, none⟩) hgpl hgpg).trans hgp, (hW.cell (p := ⟨b4, 0, none⟩) h4l n4).trans h4c, (hW.cell (p := ⟨wr.heap.size, 0, none⟩) h5l n5).trans h5c, (hW.cell (p := ⟨wr.heap.size + 1, 0, none⟩) h6l n6).trans h60, (hW.cell (p := ⟨wr.heap.size + 1, 1, none⟩) h6l n6).trans h61, (hW.cell (p := ⟨wr.heap.size + 1, 2, none⟩) h6l n6).trans h62, (hW.cell (p := ⟨wr.heap.size + 1, 3, none⟩) h6l n6).trans h63⟩
            clear hgp h4c h5c h60 h61 h62 h63
            go_wp2_with fail
            go_region_held3 (fun w' => w'.cell? ⟨gp, q, none⟩ = some (.slice (some ⟨g, 0, none⟩) m cq) ∧ w'.cell? ⟨b4, 0, none⟩ = some (.int .i64 q) ∧ w'.cell? ⟨wr.heap.size, 0, none⟩ = some (.int .i64 k) ∧ w'.cell? ⟨wr.heap.size + 1, 0, none⟩ = some (.int .u8 fl) ∧ w'.cell? ⟨wr.heap.size + 1, 1, none⟩ = some (.int .i64 st) ∧ w'.cell? ⟨wr.heap.size + 1, 2, none⟩ = some (.int .i64 kp) ∧ w'.cell? ⟨wr.heap.size + 1, 3, none⟩ = some (.int .i64 tn)) (first | exact hS.out _ (Only.of_below (below_drew0 wc) _) | exact hS.out _ (Only.of_below hb3 _) | exact hS.out _ (((Only.of_below hb3 (fun b => b = g)).setCell (p := ⟨g, k * 2, none⟩) (.inl rfl) _).setCell (p := ⟨g, k * 2 + 1, none⟩) (.inl rfl) _)) (first
              | ((with_reducible refine (hcr _ ?_).mono ?_); (exact below_drew0 wc); rintro e w2 ⟨A2, c2, rfl, ho2, hb2, hs2⟩; have hb3 : Below wc.heap.size wc w2 := (below_drew0 wc).trans hb2; have v0 := (hb3.cell (p := ⟨g, k * 2, none⟩) hgwc).trans qc0; have v1 := (hb3.cell (p := ⟨g, k * 2 + 1, none⟩) hgwc).trans qc1; have y0 := (hb3.frozen (p := ⟨g, k * 2, none⟩) hgwc).trans hf0; have y1 := (hb3.frozen (p := ⟨g, k * 2 + 1, none⟩) hgwc).trans hf1; have HN := Lib.hid (HNEXT.out w2 hb3 A2 c2 ho2 hs2); clear ho2)
              | fail)
            all_goals
              go_wp2
              go_roundw
              case rel => exact ⟨k + 1, by omega, by go_num, HN.out⟩
              case measure => simp [intOf]; omega
        · obtain rfl : k = m := by omega
          have e4 : decide ((k : Int) < (k : Int)) = false := by rw [decide_eq_false_iff_not]; omega
          rw [crashF_next D.f l q k HM.out.symm] at hd
          have HD := Lib.hid (And.intro hd hO)
          clear hd hO hk4 hrows hG
          go_wp2
          go_roundw
          case rel => exact ⟨q + 1, by omega, by go_num, ⟨Xk, HD.out.1⟩, HD.out.2⟩
          case measure => simp [intOf]; omega
    · obtain rfl : q = 2 := by omega
      have hfin : DevPost (D.crash l) F (.pointer (some ⟨gp, 0, none⟩)) w wr := by
        refine ⟨⟨gp, s, .pointer none, Xq, rfl, ⟨⟨fun n hn => ?_, hd.rows, hd.apart⟩, hd.blk, hd.inF, hd.left⟩⟩, hO.mono fun b z => .inl z.1⟩
        have := hd.file n hn
        rw [show (DevP.f ⟨crashF D.f l 2, none, false⟩ n) = (D.crash l).f n from if_pos hn] at this
        exact this
      have HFIN := Lib.hid hfin
      clear hfin hd hO hrows hG
      go_wp2
      go_end0
      exact ⟨rfl, HFIN.out⟩
end
theorem crash_any {D : DevP} {w : World} {F : Nat → Prop} {p : Value} (h : IsDev D w F p) (hF : ∀ b, F b → b < w.heap.size) {N : Nat} (hG : D.good N) (hN : N ≤ 100000) (A : Option Addr) (c : Nat) (l : List FateP) (hl : FatesAt w w.heap.size A l) (hlF : ∀ b o, A = some ⟨b, o, none⟩ → 0 < l.length → ¬ F b) (hln : l.length ≤ 100000) :
    Calls Try.prog 13 #[p, .slice A l.length c] w fun e w' => e = .returned (.tuple #[]) ∧ DevPost (D.crash l) F p w w' := by
  obtain ⟨gp, s, lv, X, rfl, h⟩ := h
  exact crash_some h hF hG hN A c l hl hlF hln
end Go.Proofs.Ytnbbneldbagohaa
