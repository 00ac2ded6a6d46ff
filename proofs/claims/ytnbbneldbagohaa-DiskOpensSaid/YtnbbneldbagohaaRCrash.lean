/- The document's device: Crash. Conditions: the device lies there. -/
import Derived.Test.YtnbbneldbagohaaRImage
namespace Go.Proofs.Ytnbbneldbagohaa
open Go.ChangeShapes Go.WideShapes Go.ChangeAt Go.RowKit
set_option linter.unusedVariables false
set_option linter.unusedSimpArgs false
set_option maxRecDepth 20000

theorem fate_drop {l : List FateP} {j : Nat} (hj : j < l.length) (n k : Nat) : fateFor (l.drop j) n k = if matchB l[j] n k = true then l[j] else fateFor (l.drop (j + 1)) n k := by
  rw [List.drop_eq_getElem_cons hj]
  show (List.find? (fun x => matchB x n k) (l[j] :: l.drop (j + 1))).getD FateP.zero = _
  rw [List.find?_cons]
  cases h : matchB l[j] n k with
  | true => rfl
  | false => rfl
theorem fate_end (l : List FateP) (n k : Nat) : fateFor (l.drop l.length) n k = FateP.zero := by
  rw [List.drop_length]
  rfl
/-- the first j of the one, the rest of the other -/
def mixL (a b : List Nat) (j : Nat) : List Nat := a.take j ++ b.drop j
theorem mixL_length {a b : List Nat} {j : Nat} (ha : a.length = 128) (hb : b.length = 128) (hj : j ≤ 128) : (mixL a b j).length = 128 := by unfold mixL; simp [ha, hb]; omega
theorem mixL_next {a b : List Nat} {j : Nat} (ha : a.length = 128) (hb : b.length = 128) (hj : j < 128) : (mixL a b j).set j (a[j]'(by omega)) = mixL a b (j + 1) := by
  unfold mixL
  have hl : (a.take j).length = j := by simp; omega
  rw [List.set_append, hl, if_neg (by omega), Nat.sub_self, List.drop_eq_getElem_cons (by omega : j < b.length), List.set_cons_zero, List.take_succ_eq_append_getElem (by omega : j < a.length), List.append_assoc]
  rfl
theorem mixL_small {a b : List Nat} (ha : Small a) (hb : Small b) (j : Nat) : Small (mixL a b j) := small_append (fun x hx => ha x (List.mem_of_mem_take hx)) (fun x hx => hb x (List.mem_of_mem_drop hx))
section
variable {D : DevP} {w : World} {F : Nat → Prop} {gp : Nat} {s : Nat → Value} {lf : Int} {X : Nat → List Value}
theorem RAt.calm (h : RAt D w F gp s lf X) : RAt ⟨D.f, none, false⟩ ((w.setCell ⟨gp, 2, none⟩ (.bool false)).setCell ⟨gp, 4, none⟩ (.bool false)) F gp s lf X ∧ Only (Hard F w) w ((w.setCell ⟨gp, 2, none⟩ (.bool false)).setCell ⟨gp, 4, none⟩ (.bool false)) := by
  have ho : Only (fun b => b = gp) w ((w.setCell ⟨gp, 2, none⟩ (.bool false)).setCell ⟨gp, 4, none⟩ (.bool false)) := ((Only.refl (fun b => b = gp) w).setCell (p := ⟨gp, 2, none⟩) (.inl rfl) _).setCell (p := ⟨gp, 4, none⟩) (.inl rfl) _
  exact ⟨⟨h.toFilesAt.far ho (rfar h), (h.blk.set_ 2 _).set_ 4 _, h.inF, fun n e => by cases e⟩, ho.mono fun b q => .inl (by subst q; exact rhard h)⟩
set_option maxHeartbeats 8000000 in
theorem rcrash_some (h : RAt D w F gp s lf X) (hF : ∀ b, F b → b < w.heap.size) {N : Nat} (hG : D.good N) (hN : N ≤ 100000) (A : Option Addr) (c : Nat) (l : List FateP) (hl : FatesAt w w.heap.size A l) (hlF : ∀ b o, A = some ⟨b, o, none⟩ → 0 < l.length → ¬ F b) (hln : l.length ≤ 100000) :
    Calls Try.prog 43 #[.pointer (some ⟨gp, 0, none⟩), .slice A l.length c] w fun e w' => e = .returned (.tuple #[]) ∧ RPost (D.crash l) F (.pointer (some ⟨gp, 0, none⟩)) w w' := by
  have z2 := h.blk.frozen 2
  have z3 := h.blk.frozen 4
  have z4 := h.blk.cell 2
  have z5 := h.blk.cell 4
  have hgw := h.blk.lt
  obtain ⟨hc, hco⟩ := h.calm
  have hrows : ∀ n, n < 2 → ∃ A c, s n = .slice A (D.f n).length c ∧ ∀ g o, A = some ⟨g, o, none⟩ → o = 0 ∧ g < w.heap.size ∧ Hard F w g := fun n hn => by
    have ho := (h.file n hn).1
    have hFn := (h.file n hn).2.1
    obtain ⟨A, c, e, -, -⟩ := own_form ho
    refine ⟨A, c, e, fun g o eA => ?_⟩
    subst eA
    rw [e] at ho
    rcases ho.2 with ⟨e', _⟩ | ⟨g', cap, cur, e', _⟩
    · cases e'
    · injection e' with e' _ _
      injection e' with e'
      injection e' with e1 e2
      exact ⟨e2, (ho.lt g rfl).2, hFn g (by rw [e]; rfl), fun hu => absurd (hu.uniq' (own_ty ho rfl)) (by decide)⟩
  clear h
  go_enter Try.func43, Try.ntmps43
  go_wp2_with fail
  go_loopw [4, 5, 6, 7, 8, 9, 10, 11] (fun i _ _ _ _ _ _ _ wr => ∃ q : Nat, q ≤ 2 ∧ i = .int .i64 q ∧ (∃ Xk, RAt ⟨crashF D.f l q, none, false⟩ wr (grow F w wr) gp s lf Xk) ∧ Only (Hard F w) w wr) (fun i _ _ _ _ _ _ _ _ => 2 - (intOf i).toNat)
  case atStart => exact ⟨0, by omega, rfl, ⟨X, by rw [crashF_zero]; exact hc.mono fun b q => .inl q⟩, hco⟩
  case round =>
    clear hc hco z2 z3 z4 z5
    obtain ⟨q, hq, rfl, ⟨Xq, hd⟩, hO⟩ := hrel
    rcases Nat.lt_or_ge q 2 with hlt | hge
    · have e1 : decide ((q : Int) < 2) = true := by rw [decide_eq_true_iff]; omega
      have e2 : (0 : Int) ≤ (q : Int) := by omega
      have e3 : (q : Int) < 2 := by omega
      obtain ⟨Aq, cq, es, hgq⟩ := hrows q hlt
      obtain ⟨m, hm⟩ : ∃ m, (D.f q).length = m := ⟨_, rfl⟩
      have hm2 := (hG q hlt).1
      rw [hm] at es hm2
      have HM := Lib.hid hm
      clear hm
      go_wp2_with fail
      go_loopw [5, 6, 7, 8, 9, 10, 11] (fun i _ _ _ _ _ _ wr => ∃ k : Nat, k ≤ m ∧ i = .int .i64 k ∧ (∃ Xk, RAt ⟨stepF (crashF D.f l q) q (crashG l q) k, none, false⟩ wr (grow F w wr) gp s lf Xk) ∧ Only (Hard F w) w wr) (fun i _ _ _ _ _ _ _ => m - (intOf i).toNat)
      case atStart => exact ⟨0, Nat.zero_le _, rfl, ⟨Xq, by rw [stepF_zero]; exact hd⟩, hO⟩
      case round =>
        clear hd hO
        obtain ⟨k, hk, rfl, ⟨Xk, hd⟩, hO⟩ := hrel
        have hc0 := hd.cellF hlt
        rw [es] at hc0
        have hgpl := hd.blk.lt
        rcases Nat.lt_or_ge k m with hlt2 | hge
        · have e4 : decide ((k : Int) < (m : Int)) = true := by rw [decide_eq_true_iff]; omega
          have e5 : (0 : Int) ≤ (k : Int) := by omega
          have e6 : (k : Int) < (m : Int) := by omega
          have hOs := hO.size
          have hlr := hl.only hO (fun b o e hl0 => fun z => hlF b o e hl0 z.1)
          have hk0 : k < (D.f q).length := by rw [HM.out]; exact hlt2
          have hkc : k < (crashF D.f l q q).length := by rw [crashF_at]; exact hk0
          have hkl : k < (stepF (crashF D.f l q) q (crashG l q) k q).length := by rw [stepF_length]; exact hkc
          have hAt : (stepF (crashF D.f l q) q (crashG l q) k q)[k] = (D.f q)[k] := by rw [stepF_at _ _ _ hkc hkl]; congr 1; exact crashF_at _ _ _
          have hnx := stepF_next (crashF D.f l q) q (crashG l q) hkc
          rw [show (crashF D.f l q q)[k] = (D.f q)[k] by congr 1; exact crashF_at _ _ _] at hnx
          have hln : (stepF (crashF D.f l q) q (crashG l q) k q).length = m := by rw [stepF_length, crashF_length, HM.out]
          obtain ⟨g, c', lw, wv, es', qc0, qc1, ht, hW, -, -, -, -⟩ := hd.toFilesAt.sector hlt hkl
          simp only [hAt] at ht hW
          rw [hln] at es'
          rw [es] at es'
          injection es' with q1 _ q3
          subst q1
          subst q3
          obtain ⟨r1, r2, r3⟩ := hG.at_ hlt hk0
          have hgw' : g < w.heap.size := (hgq g 0 rfl).2.1
          have hgH := (hgq g 0 rfl).2.2
          have hgwr : g < wr.heap.size := Nat.lt_of_lt_of_le hgw' hOs
          obtain ⟨L, how, hFw, hTw⟩ := hW
          obtain ⟨A5, c5, rfl, -, -⟩ := own_form how
          obtain ⟨A6, c6, rfl, hc6, hb6⟩ := ht.bytes
          rw [r1] at qc0
          generalize hsc : (D.f q)[k] = sc at *
          have hcg : crashG l q k sc = sc.crash (fateFor l q k) := rfl
          obtain ⟨m2, hm2'⟩ : ∃ m, sc.waits.length = m := ⟨_, rfl⟩
          rw [hm2'] at qc1 how r2
          have k6 := (Blk.new wr 83 #[.slice A6 128 c6, .slice A5 m2 c5]).alloc (.cells #[.int .u8 0, .int .i64 0, .int .i64 0, .int .i64 0] 24)
          have k7 := Blk.new (wr.alloc (.cells #[.slice A6 128 c6, .slice A5 m2 c5] 83)) 24 #[.int .u8 0, .int .i64 0, .int .i64 0, .int .i64 0]
          rw [World.size_alloc] at k7
          have hbW : Below wr.heap.size wr ((wr.alloc (.cells #[.slice A6 128 c6, .slice A5 m2 c5] 83)).alloc (.cells #[.int .u8 0, .int .i64 0, .int .i64 0, .int .i64 0] 24)) := ((Below.refl _ _).alloc (Nat.le_refl _) _).alloc (by simp) _
          rw [Nat.mul_comm 2 k] at qc0 qc1
          have HDK := Lib.hid hd
          go_wp2_with fail
          rename World => w1
          go_loopw [8] (fun i wx => ∃ (j : Nat) (x : Int), j ≤ l.length ∧ i = .int .i64 x ∧ x = (j : Int) - 1 ∧ Blk wx (w1.heap.size + 1) 24 #[.int .u8 (fateFor (l.drop j) q k).file, .int .i64 (fateFor (l.drop j) q k).sector, .int .i64 (fateFor (l.drop j) q k).keep, .int .i64 (fateFor (l.drop j) q k).torn] ∧ Blk wx w1.heap.size 83 #[.slice A6 128 c6, .slice A5 m2 c5] ∧ Below w1.heap.size w1 wx) (fun i _ => (intOf i + 1).toNat)
          case atStart => exact ⟨l.length, _, Nat.le_refl _, rfl, rfl, by rw [fate_end]; exact k7, k6, hbW⟩
          case round =>
            clear k6 k7 hbW hd hl
            obtain ⟨j, x, hj, rfl, hx, k7, k6, hbW⟩ := hrel
            cases j with
            | succ j =>
              obtain rfl : x = (j : Int) := by omega
              clear hx
              have hlW := hlr.below (hbW.mono hOs)
              have hj' : j < l.length := by omega
              obtain ⟨b, o, eA, hbB, x0, x1, x2, x3, hx4⟩ := hlW.at_ hj'
              subst eA
              rw [Nat.mul_comm 4 j] at x0 x1 x2 x3
              have z1 : decide ((0 : Int) ≤ (j : Int)) = true := by rw [decide_eq_true_iff]; omega
              have z2 : (0 : Int) ≤ (j : Int) := by omega
              have z3 : (j : Int) < (l.length : Int) := by omega
              have hdr := fate_drop hj' q k
              generalize l[j] = y at *
              obtain ⟨fl, st, kp, tn⟩ := y
              simp only at x0 x1 x2 x3 hx4
              by_cases hfl : fl = q
              · have hqf : q = fl := hfl.symm
                subst hqf
                by_cases hst : st = (k : Int)
                · subst hst
                  rw [if_pos (by unfold matchB; simp)] at hdr
                  have g0 := k7.frozen 0
                  have g1 := k7.frozen 1
                  have g2 := k7.frozen 2
                  have g3 := k7.frozen 3
                  have y0 := k7.cell 0
                  have y1 := k7.cell 1
                  have y2 := k7.cell 2
                  have y3 := k7.cell 3
                  have fin7 := (((k7.set_ 0 (.int .u8 (q : Int))).set_ 1 (.int .i64 (k : Int))).set_ 2 (.int .i64 kp)).set_ 3 (.int .i64 tn)
                  have h67 : w1.heap.size ≠ w1.heap.size + 1 := by omega
                  have fin6 := (((k6.far (p := ⟨w1.heap.size + 1, 0, none⟩) h67 (.int .u8 (q : Int))).far (p := ⟨w1.heap.size + 1, 1, none⟩) h67 (.int .i64 (k : Int))).far (p := ⟨w1.heap.size + 1, 2, none⟩) h67 (.int .i64 kp)).far (p := ⟨w1.heap.size + 1, 3, none⟩) h67 (.int .i64 tn)
                  have h68 : w1.heap.size ≤ w1.heap.size + 1 := by omega
                  have finb := (((hbW.setCell (p := ⟨w1.heap.size + 1, 0, none⟩) h68 (.int .u8 (q : Int))).setCell (p := ⟨w1.heap.size + 1, 1, none⟩) h68 (.int .i64 (k : Int))).setCell (p := ⟨w1.heap.size + 1, 2, none⟩) h68 (.int .i64 kp)).setCell (p := ⟨w1.heap.size + 1, 3, none⟩) h68 (.int .i64 tn)
                  simp only [List.setIfInBounds_toArray, List.set_cons_succ, List.set_cons_zero] at fin7
                  have FIN := Lib.hid (And.intro fin7 (And.intro fin6 finb))
                  have HDR := Lib.hid hdr
                  clear fin7 fin6 finb h67 h68 k6 k7 hbW hdr hlW hlr
                  go_wp2
                  go_roundw
                  case rel => exact ⟨j, _, by omega, by go_num, rfl, by rw [HDR.out]; exact FIN.out.1, FIN.out.2.1, FIN.out.2.2⟩
                  case measure => simp [intOf] <;> omega
                · have z5 : (st == (k : Int)) = false := by rw [beq_eq_false_iff_ne]; exact hst
                  rw [if_neg (by unfold matchB; simp [hst])] at hdr
                  have FIN := Lib.hid (And.intro k7 (And.intro k6 hbW))
                  have HDR := Lib.hid hdr
                  clear k6 k7 hbW hdr hlW hlr hfl
                  go_wp2
                  go_roundw
                  case rel => exact ⟨j, _, by omega, by go_num, rfl, by rw [HDR.out]; exact FIN.out.1, FIN.out.2.1, FIN.out.2.2⟩
                  case measure => simp [intOf] <;> omega
              · have z4 : (((fl : Nat) : Int) == (q : Int)) = false := by rw [beq_eq_false_iff_ne]; omega
                rw [if_neg (by unfold matchB; simp [hfl])] at hdr
                have FIN := Lib.hid (And.intro k7 (And.intro k6 hbW))
                have HDR := Lib.hid hdr
                clear k6 k7 hbW hdr hlW hlr hfl
                go_wp2
                go_roundw
                case rel => exact ⟨j, _, by omega, by go_num, rfl, by rw [HDR.out]; exact FIN.out.1, FIN.out.2.1, FIN.out.2.2⟩
                case measure => simp [intOf] <;> omega
            | zero =>
              obtain rfl : x = -1 := by omega
              clear hx
              have z1 : decide ((0 : Int) ≤ (-1 : Int)) = false := by decide
              rw [List.drop_zero] at k7
              clear z1
              have z1 : decide ((0 : Int) ≤ (-1 : Int)) = false := by decide
              generalize hfe : fateFor l q k = fe at *
              obtain ⟨fl, st, kp, tn⟩ := fe
              dsimp only at k7
              have g2 := k7.cell 2
              have g1 := k6.cell 1
              obtain ⟨K, hK⟩ : ∃ K : Nat, K = min (max kp 0).toNat m2 := ⟨_, rfl⟩
              have HK := Lib.hid hK
              have hKm : K ≤ m2 := by omega
              clear hK hlr hj
              go_upto_region 15 with (fail)
              go_cut [9] (fun s9 wx => s9 = .int .i64 K ∧ wr = wx)
              case first =>
                rcases (show kp < 0 ∨ (0 ≤ kp ∧ kp ≤ m2) ∨ (m2 : Int) < kp from by omega) with y | ⟨y1, y2⟩ | y
                · have hK := HK.out
                  obtain rfl : K = 0 := by omega
                  clear hK
                  have y1 : ¬ (0 : Int) ≤ kp := by omega
                  go_wp2
                  go_meet
                  case rel => exact ⟨by go_num, rfl⟩
                · obtain ⟨q1, rfl⟩ := Int.eq_ofNat_of_zero_le y1
                  have hK := HK.out
                  obtain rfl : K = q1 := by omega
                  clear hK
                  go_wp2
                  go_meet
                  case rel => exact ⟨by go_num, rfl⟩
                · have hK := HK.out
                  obtain rfl : K = m2 := by omega
                  clear hK
                  have y1 : (0 : Int) ≤ kp := by omega
                  go_wp2
                  go_meet
                  case rel => exact ⟨by go_num, rfl⟩
              case rest =>
                obtain ⟨rfl, rfl⟩ := hcut
                go_upto_if 79 with (fail)
                go_cut [] (fun wx => ∃ A8 c8, Blk wx w1.heap.size 83 #[.slice A8 128 c8, .slice A5 m2 c5] ∧ Txt wx (grow F w w1) (.slice A8 128 c8) (keptL sc K) ∧ Blk wx (w1.heap.size + 1) 24 #[.int .u8 fl, .int .i64 st, .int .i64 kp, .int .i64 tn] ∧ Below w1.heap.size w1 wx)
                case first =>
                  have htr : Txt wr (grow F w w1) (.slice A6 128 c6) sc.last := by
                    have := ht.only (Only.of_below hbW (fun _ => False)) fun _ _ _ z => z
                    rw [r1] at this
                    exact this
                  rcases Nat.eq_zero_or_pos K with hz | hz
                  · subst hz
                    have hk0 : keptL sc 0 = sc.last := if_pos rfl
                    rw [← hk0] at htr
                    have FIN := Lib.hid (And.intro k6 (And.intro htr (And.intro k7 hbW)))
                    clear k6 k7 htr hbW hk0
                    go_wp2
                    go_meet
                    case rel => exact ⟨A6, c6, FIN.out.1, FIN.out.2.1, FIN.out.2.2.1, FIN.out.2.2.2⟩
                  · obtain ⟨b2, rfl, hb2, hb2'⟩ := own_pos how (by omega)
                    have hLl : L.length = m2 := by have := how.1; omega
                    have hu : L[K - 1]? = some (L[K - 1]'(by omega)) := List.getElem?_eq_getElem (by omega)
                    have hlk : sc.waits[K - 1]? = some (sc.waits[K - 1]'(by omega)) := List.getElem?_eq_getElem (by omega)
                    have hx := (hTw (K - 1) _ _ hu hlk).only (Only.of_below hbW (fun _ => False)) fun _ _ _ z => z
                    have hk0 : keptL sc K = sc.waits[K - 1]'(by omega) := by unfold keptL; rw [if_neg (by omega), hlk]; rfl
                    rw [← hk0] at hx
                    have qc := (hbW.cell (p := ⟨b2, K - 1, none⟩) hb2').trans ((how.cellAt (K - 1) (by omega)).trans hu)
                    generalize L[K - 1]'(by omega) = u at *
                    have hl128 := keptL_128 r1 r3 (k := K) (by omega)
                    clear hk0 hlk
                    obtain ⟨q9, rfl⟩ : ∃ q9, K = q9 + 1 := ⟨K - 1, by omega⟩
                    rw [Nat.add_sub_cancel] at qc
                    have z2 : decide ((0 : Int) < ((q9 + 1 : Nat) : Int)) = true := by rw [decide_eq_true_iff]; omega
                    have z3 : (((q9 + 1 : Nat) : Int)) - 1 = (q9 : Int) := by omega
                    have z4 : (0 : Int) ≤ (q9 : Int) := by omega
                    have z5 : (q9 : Int) < (m2 : Int) := by omega
                    obtain ⟨A8, c8, e6, -, -⟩ := hx.bytes
                    rw [hl128] at e6
                    subst e6
                    generalize keptL sc (q9 + 1) = kl at *
                    have g60 := k6.frozen 0
                    have y60 := k6.cell 0
                    have hsw : w.heap.size ≤ w1.heap.size := hOs
                    have hgrw : ∀ b, grow F w w1 b → b ≠ w1.heap.size := fun b z e => by
                      subst e
                      rcases z with z | z
                      · have := hF _ z; omega
                      · omega
                    have fin6 := k6.set_ 0 (.slice A8 128 c8)
                    have fin7 := k7.far (p := ⟨w1.heap.size, 0, none⟩) (by show w1.heap.size + 1 ≠ w1.heap.size; omega) (.slice A8 128 c8)
                    have finb := hbW.setCell (p := ⟨w1.heap.size, 0, none⟩) (by exact Nat.le_refl _) (.slice A8 128 c8)
                    have fint := hx.only ((Only.refl (fun b => b = w1.heap.size) wr).setCell (p := ⟨w1.heap.size, 0, none⟩) (.inl rfl) (.slice A8 128 c8)) (fun b z _ => hgrw b z)
                    simp only [List.setIfInBounds_toArray, List.set_cons_zero] at fin6
                    have FIN := Lib.hid (And.intro fin6 (And.intro fint (And.intro fin7 finb)))
                    clear k6 k7 hbW fin6 fin7 finb fint hx hgrw htr hTw how hb2 hu hLl
                    go_wp2
                    go_meet
                    case rel => exact ⟨A8, c8, FIN.out.1, FIN.out.2.1, FIN.out.2.2.1, FIN.out.2.2.2⟩
                case rest =>
                  obtain ⟨A8, c8, k6', ht', k7', hb'⟩ := hcut
                  clear k6 k7 hbW g1 g2 z1
                  have hl128 := keptL_128 r1 r3 (k := K) (by omega)
                  have y61 := k6'.cell 1
                  have hsw : w.heap.size ≤ w1.heap.size := hOs
                  have hwz := hb'.size
                  have hgr1 : ∀ W, w1.heap.size ≤ W.heap.size → ∀ b, grow F w w1 b → grow F w W b := fun W hW b z => z.imp id fun y => ⟨y.1, Nat.lt_of_lt_of_le y.2 hW⟩
                  have hlast : (sc.crash ⟨fl, st, kp, tn⟩).last = if K < m2 then (sc.waits[K]?.getD []).take (min (max tn 0).toNat 128) ++ (keptL sc K).drop (min (max tn 0).toNat 128) else keptL sc K := by
                    unfold Sect.crash
                    dsimp only
                    rw [show keepN sc ⟨fl, st, kp, tn⟩ = K by unfold keepN; rw [hm2']; exact HK.out.symm, hm2']
                  have HLAST := Lib.hid hlast
                  clear hlast
                  go_upto_if 91 with (fail)
                  go_cut [] (fun wx => ∃ A9 c9, Blk wx w1.heap.size 83 #[.slice A9 128 c9, .slice A5 m2 c5] ∧ Txt wx (grow F w wx) (.slice A9 128 c9) (sc.crash ⟨fl, st, kp, tn⟩).last ∧ Below w1.heap.size w1 wx)
                  case first =>
                    rcases Nat.lt_or_ge K m2 with hlt3 | hge3
                    · obtain ⟨b2, rfl, hb2, hb2'⟩ := own_pos how (by omega)
                      have hLl : L.length = m2 := by have := how.1; omega
                      have hu : L[K]? = some (L[K]'(by omega)) := List.getElem?_eq_getElem (by omega)
                      have hlk : sc.waits[K]? = some (sc.waits[K]'(by omega)) := List.getElem?_eq_getElem (by omega)
                      have hx := (hTw K _ _ hu hlk).only (Only.of_below hb' (fun _ => False)) fun _ _ _ z => z
                      have hw128 : (sc.waits[K]'(by omega)).length = 128 := r3 _ (List.getElem_mem _)
                      have qc := (hb'.cell (p := ⟨b2, K, none⟩) hb2').trans ((how.cellAt K (by omega)).trans hu)
                      have hl2 := HLAST.out
                      rw [if_pos hlt3, hlk, Option.getD_some] at hl2
                      generalize L[K]'(by omega) = u at *
                      generalize sc.waits[K]'(by omega) = wl at *
                      obtain ⟨A7, c7, e7, hc7, hb7⟩ := hx.bytes
                      rw [hw128] at e7
                      subst e7
                      generalize (sc.crash ⟨fl, st, kp, tn⟩).last = cl at *
                      generalize keptL sc K = kl at *
                      obtain ⟨A0, c0', e0, hc0', hb0⟩ := ht'.bytes
                      rw [hl128] at e0
                      injection e0 with e0 _ e01
                      subst e0
                      subst e01
                      have hcl := rlent_any A8 c8 kl _ wc hb0 (by omega)
                      rw [hl128] at hcl
                      have HL2 := Lib.hid hl2
                      have z1 : decide ((K : Int) < (m2 : Int)) = true := by rw [decide_eq_true_iff]; omega
                      have z2 : (0 : Int) ≤ (K : Int) := by omega
                      have z3 : (K : Int) < (m2 : Int) := by omega
                      have y60 := k6'.cell 0
                      have hb6l := k6'.lt
                      have hb7l := k7'.lt
                      clear hl2 hlk hu hx hTw how HLAST ht'
                      go_wp2_with fail
                      refine hcl.mono ?_
                      rintro e w2 ⟨A2, c2, rfl, ho2, hbn, hs2⟩
                      rw [hl128] at ho2 ⊢
                      obtain ⟨g2, rfl, hg2, hg2'⟩ := own_pos ho2 (by omega)
                      have hm0 : mixL wl kl 0 = kl := by unfold mixL; rw [List.take_zero, List.drop_zero]; rfl
                      rw [← hm0] at ho2
                      have hmx : ∀ j, j ≤ 128 → (mixL wl kl j).length = 128 := fun j hj => mixL_length hw128 hl128 hj
                      have hmn : ∀ j (hj : j < 128), (mixL wl kl j).set j (wl[j]'(by omega)) = mixL wl kl (j + 1) := fun j hj => mixL_next hw128 hl128 hj
                      have hms := mixL_small hb7.2 hs2
                      have KEEP := Lib.hid (And.intro k6' (And.intro k7' (And.intro hmx (And.intro hmn hms))))
                      clear hmx hmn hms k6' k7' y60 y61 hm0 hcl
                      go_wp2_with fail
                      go_loopw [11] (fun i wx => ∃ j : Nat, j ≤ 128 ∧ i = .int .i64 j ∧ j ≤ (max tn 0).toNat ∧ wx.ownsRow wc.heap.size 5 1 (.slice (some ⟨g2, 0, none⟩) 128 c2) 128 ((mixL wl kl j).map byteV) ∧ Below wc.heap.size wc wx) (fun i _ => 128 - (intOf i).toNat)
                      case atStart => exact ⟨0, by omega, rfl, by omega, ho2, hbn⟩
                      case round =>
                        clear ho2 hbn
                        rename World => wx
                        obtain ⟨j, hj, rfl, hjt, hown, hb⟩ := hrel
                        have hd2 := (hb.cell (p := ⟨w1.heap.size + 1, 3, none⟩) hb7l).trans (KEEP.out.2.1.cell 3)
                        have hd3 := (hb.cell (p := ⟨w1.heap.size, 1, none⟩) hb6l).trans (KEEP.out.1.cell 1)
                        have hd4 := (hb.cell (p := ⟨b2, K, none⟩) (Nat.lt_of_lt_of_le hb2' hwz)).trans qc
                        rcases (show (j < 128 ∧ (j : Int) < tn) ∨ (j < 128 ∧ tn ≤ (j : Int)) ∨ j = 128 from by omega) with ⟨h1, h2⟩ | h2
                        · have z4 : decide ((j : Int) < 128) = true := by rw [decide_eq_true_iff]; omega
                          have z5 : decide ((j : Int) < tn) = true := by rw [decide_eq_true_iff]; omega
                          have z6 : (0 : Int) ≤ (j : Int) := by omega
                          have z7 : (j : Int) < 128 := by omega
                          have hjw : j < wl.length := by rw [hw128]; exact h1
                          obtain ⟨b7, o7, rfl, hbB, x0, xq⟩ := (hb7.below hb).at_ (k := j) hjw
                          have hz := hown.frozenAt j
                          obtain ⟨v0, hv0⟩ : ∃ v0, wx.cell? ⟨g2, j, none⟩ = some v0 := by
                            have := hown.cellAt j (by omega)
                            rw [List.getElem?_eq_getElem (by rw [List.length_map, KEEP.out.2.2.1 j hj]; omega)] at this
                            exact ⟨_, this⟩
                          have hnx2 := KEEP.out.2.2.2.1 j h1
                          obtain ⟨y, hy⟩ : ∃ y, wl[j] = y := ⟨_, rfl⟩
                          rw [hy] at hnx2 x0 xq
                          have hst := (hown.stored j (byteV y)).1
                          rw [← List.map_set, hnx2] at hst
                          have FIN := Lib.hid (And.intro hst (hb.setCell (p := ⟨g2, j, none⟩) (by exact hg2) (byteV y)))
                          clear hst hnx2 hy hown hb
                          go_wp2_with fail
                          go_roundw
                          case rel => exact ⟨j + 1, by omega, by go_num, by omega, FIN.out.1, FIN.out.2⟩
                          case measure => simp [intOf]; omega
                        · have hjj : min (max tn 0).toNat 128 = j := by omega
                          have g60 : wx.frozen? ⟨w1.heap.size, 0, none⟩ = false := (hb.frozen (p := ⟨w1.heap.size, 0, none⟩) hb6l).trans (KEEP.out.1.frozen 0)
                          have g61 := (hb.cell (p := ⟨w1.heap.size, 0, none⟩) hb6l).trans (KEEP.out.1.cell 0)
                          have hl3 : cl = mixL wl kl j := by rw [HL2.out, hjj]; rfl
                          have hcw : w1.heap.size ≤ wc.heap.size := hwz
                          have fin6 := (KEEP.out.1.below hb hb6l).set_ 0 (.slice (some ⟨g2, 0, none⟩) 128 c2)
                          simp only [List.setIfInBounds_toArray, List.set_cons_zero] at fin6
                          have finb := (hb'.trans (hb.mono hwz)).setCell (p := ⟨w1.heap.size, 0, none⟩) (by exact Nat.le_refl _) (.slice (some ⟨g2, 0, none⟩) 128 c2)
                          have fint : Txt (wx.setCell ⟨w1.heap.size, 0, none⟩ (.slice (some ⟨g2, 0, none⟩) 128 c2)) (grow F w (wx.setCell ⟨w1.heap.size, 0, none⟩ (.slice (some ⟨g2, 0, none⟩) 128 c2))) (.slice (some ⟨g2, 0, none⟩) 128 c2) cl := by
                            have hlt' := (hown.lt g2 rfl).2
                            have t0 : Txt wx (fun b => b = g2) (.slice (some ⟨g2, 0, none⟩) 128 c2) cl := by
                              rw [hl3]
                              exact Txt.own hown (KEEP.out.2.2.1 j hj) (KEEP.out.2.2.2.2 j) fun b e => by injection e with e; exact e.symm
                            refine (t0.only ((Only.refl (fun b => b = w1.heap.size) wx).setCell (p := ⟨w1.heap.size, 0, none⟩) (.inl rfl) _) fun b e _ => by omega).mono fun b e _ => .inr ⟨by omega, ?_⟩
                            show b < (wx.setCell _ _).heap.size
                            simp [World.setCell]
                            omega
                          have FIN := Lib.hid (And.intro fin6 (And.intro fint finb))
                          clear fin6 finb fint hl3 hown hb hb' hb7 hb0 hjj hjt hj HL2
                          rcases h2 with ⟨h1, h2⟩ | h2
                          · have z4 : decide ((j : Int) < 128) = true := by rw [decide_eq_true_iff]; omega
                            have z5 : decide ((j : Int) < tn) = false := by rw [decide_eq_false_iff_not]; omega
                            go_wp2
                            go_meet
                            case rel => exact ⟨_, _, FIN.out.1, FIN.out.2.1, FIN.out.2.2⟩
                          · subst h2
                            have z4 : decide ((128 : Int) < 128) = false := rfl
                            go_wp2
                            go_meet
                            case rel => exact ⟨_, _, FIN.out.1, FIN.out.2.1, FIN.out.2.2⟩
                    · have z1 : decide ((K : Int) < (m2 : Int)) = false := by rw [decide_eq_false_iff_not]; omega
                      have hl2 := HLAST.out
                      rw [if_neg (by omega)] at hl2
                      rw [← hl2] at ht'
                      have ht2 := ht'.mono (F' := grow F w wc) fun b z _ => hgr1 wc hwz b z
                      have FIN := Lib.hid (And.intro k6' (And.intro ht2 hb'))
                      clear k6' k7' ht' ht2 hb' hl2 HLAST
                      go_wp2
                      go_meet
                      case rel => exact ⟨A8, c8, FIN.out.1, FIN.out.2.1, FIN.out.2.2⟩
                  case rest =>
                    clear k6' k7' ht' hb'
                    obtain ⟨A9, c9, k6, ht9, hb9⟩ := hcut
                    clear hTw how
                    have hb6l := k6.lt
                    have y61 := k6.cell 1
                    have g61 := k6.frozen 1
                    have h95 := hb9.size
                    have k6b := k6.set_ 1 (.slice none 0 0)
                    simp only [List.setIfInBounds_toArray, List.set_cons_zero, List.set_cons_succ] at k6b
                    have hb5 := hb9.setCell (p := ⟨w1.heap.size, 1, none⟩) (by exact Nat.le_refl _) (.slice none 0 0)
                    have hgw6 : ∀ b, U8 wc b → b ≠ w1.heap.size := fun b z e => by subst e; exact absurd (z.uniq' k6.ty) (by decide)
                    have ht5 := ht9.only ((Only.refl (fun b => b = w1.heap.size) wc).setCell (p := ⟨w1.heap.size, 1, none⟩) (.inl rfl) (.slice none 0 0)) (fun b _ z => hgw6 b z)
                    rw [show grow F w wc = grow F w (wc.setCell ⟨w1.heap.size, 1, none⟩ (.slice none 0 0)) by unfold grow; simp [World.setCell]] at ht5
                    clear hgw6 ht9 hb9 k6
                    have y60 := k6b.cell 0
                    go_upto_region 26 with (fail)
                    generalize World.setCell wc _ _ = W5 at *
                    have hd := HDK.out
                    have es2 : s q = .slice (some ⟨g, 0, none⟩) (stepF (crashF D.f l q) q (crashG l q) k q).length cq := by rw [hln]; exact es
                    have nxt : ∀ W, Below W5.heap.size W5 W → (∃ Xk, RAt ⟨stepF (crashF D.f l q) q (crashG l q) (k + 1), none, false⟩ ((W.setCell ⟨g, k * 2, none⟩ (.slice A9 128 c9)).setCell ⟨g, k * 2 + 1, none⟩ (.slice none 0 0)) (grow F w ((W.setCell ⟨g, k * 2, none⟩ (.slice A9 128 c9)).setCell ⟨g, k * 2 + 1, none⟩ (.slice none 0 0))) gp s lf Xk) ∧ Only (Hard F w) w ((W.setCell ⟨g, k * 2, none⟩ (.slice A9 128 c9)).setCell ⟨g, k * 2 + 1, none⟩ (.slice none 0 0)) := fun W hW => by
                      have hbW := hb5.trans (hW.mono hb5.size)
                      have hszz : ((W.setCell ⟨g, k * 2, none⟩ (.slice A9 128 c9)).setCell ⟨g, k * 2 + 1, none⟩ (.slice none 0 0)).heap.size = W.heap.size := by simp [World.setCell]
                      have hdW := hd.grown hbW (hgr1 W hbW.size)
                      have htx : Txt W (grow F w W) (.slice A9 128 c9) (sc.crash ⟨fl, st, kp, tn⟩).last := (ht5.only (Only.of_below hW (fun _ => False)) fun _ _ _ z => z).mono fun b z _ => z.imp id fun y => ⟨y.1, Nat.lt_of_lt_of_le y.2 hW.size⟩
                      have := hdW.set2 hlt hkl es2 htx fun b z => z
                      rw [Nat.mul_comm 2 k] at this
                      have hp : (DevP.put ⟨stepF (crashF D.f l q) q (crashG l q) k, none, false⟩ q k ⟨(sc.crash ⟨fl, st, kp, tn⟩).last, []⟩) = ⟨stepF (crashF D.f l q) q (crashG l q) (k + 1), none, false⟩ := by
                        unfold DevP.put
                        rw [← hnx, hcg]
                        rfl
                      rw [hp] at this
                      refine ⟨⟨_, by unfold grow; rw [hszz]; exact this⟩, ?_⟩
                      exact ((hO.trans (Only.of_below hbW (fun _ => False)) fun _ z => z.elim).setCell (p := ⟨g, k * 2, none⟩) (.inl hgH) _).setCell (p := ⟨g, k * 2 + 1, none⟩) (.inl hgH) _
                    have HN := Lib.hid nxt
                    have hrow := (hd.file q hlt).1
                    rw [es, show (DevP.f ⟨stepF (crashF D.f l q) q (crashG l q) k, none, false⟩ q).length = m from hln] at hrow
                    have v0 := (hb5.cell (p := ⟨g, k * 2, none⟩) hgwr).trans qc0
                    have v1 := (hb5.cell (p := ⟨g, k * 2 + 1, none⟩) hgwr).trans qc1
                    have x0 := (hb5.frozen (p := ⟨g, k * 2, none⟩) hgwr).trans (hrow.frozenAt (k * 2))
                    have x1 := (hb5.frozen (p := ⟨g, k * 2 + 1, none⟩) hgwr).trans (hrow.frozenAt (k * 2 + 1))
                    have y5 := (hb5.cell (p := ⟨gp, q, none⟩) hgpl).trans hc0
                    have y61 := k6b.cell 1
                    clear nxt hrow hd ht5 k6b hb5 hnx hcg hsc hO es2 qc0 qc1 hAt hgr1 hwz hl128 g61 hgpl hc0 hgwr hgw' hgH hrows hG ht
                    clear HLAST HDK h95 hsw hb6l hkl hkc hk0 hln r1 r2 r3 hKm
                    go_region
                    all_goals
                      go_wp2
                      go_roundw
                      case rel => exact ⟨k + 1, by omega, by go_num, by first | exact HN.out _ (Below.refl _ _) | exact HN.out _ (below_drew0 _) | exact HN.out _ (below_drewN (Below.refl _ _) _)⟩
                      case measure => simp [intOf]; omega
        · obtain rfl : k = m := by omega
          have e4 : decide ((k : Int) < (k : Int)) = false := by rw [decide_eq_false_iff_not]; omega
          rw [crashF_next D.f l q k HM.out.symm] at hd
          have HD := Lib.hid (And.intro hd hO)
          clear hd hO hrows hG
          go_wp2
          go_roundw
          case rel => exact ⟨q + 1, by omega, by go_num, ⟨Xk, HD.out.1⟩, HD.out.2⟩
          case measure => simp [intOf]; omega
    · obtain rfl : q = 2 := by omega
      have hfin : RPost (D.crash l) F (.pointer (some ⟨gp, 0, none⟩)) w wr := by
        refine ⟨⟨gp, s, lf, Xq, rfl, ⟨⟨fun n hn => ?_, hd.rows, hd.apart⟩, hd.blk, hd.inF, hd.left⟩⟩, hO.mono fun b z => .inl z.1⟩
        have := hd.file n hn
        rw [show (DevP.f ⟨crashF D.f l 2, none, false⟩ n) = (D.crash l).f n from if_pos hn] at this
        exact this
      have HFIN := Lib.hid hfin
      clear hfin hd hO hrows hG
      go_wp2
      go_end0
      exact ⟨rfl, HFIN.out⟩
end
theorem rcrash_any {D : DevP} {w : World} {F : Nat → Prop} {p : Value} (h : IsRDev D w F p) (hF : ∀ b, F b → b < w.heap.size) {N : Nat} (hG : D.good N) (hN : N ≤ 100000) (A : Option Addr) (c : Nat) (l : List FateP) (hl : FatesAt w w.heap.size A l) (hlF : ∀ b o, A = some ⟨b, o, none⟩ → 0 < l.length → ¬ F b) (hln : l.length ≤ 100000) :
    Calls Try.prog 43 #[p, .slice A l.length c] w fun e w' => e = .returned (.tuple #[]) ∧ RPost (D.crash l) F p w w' := by
  obtain ⟨gp, s, lf, X, rfl, h⟩ := h
  exact rcrash_some h hF hG hN A c l hl hlF hln
end Go.Proofs.Ytnbbneldbagohaa
