/- disk: crash of a sector. Conditions: the sector lies there. -/
import Derived.Test.YtkganajbilnanaaGreatYDiskA
import Derived.Deep.QuietTactic
import Derived.BigQuiet
import Derived.Deep.DeepCutAuto
import Derived.StillTailTactics
set_option linter.unusedVariables false
set_option linter.unusedSimpArgs false
namespace Go.Proofs.YtkganajbilnanaaGreat
open Go.ChangeShapes Go.WideShapes Go.ChangeAt Go.RowKit
set_option maxRecDepth 20000
set_option maxHeartbeats 400000 in
theorem crashS_any (g o : Nat) (lw wv : Value) (sc : Sect) (w : World) (F : Nat → Prop) (q0 : w.cell? ⟨g, o, none⟩ = some lw) (q1 : w.cell? ⟨g, o + 1, none⟩ = some wv) (hgw : g < w.heap.size) (ht : Txt w F lw sc.last) (hW : IsWaits w F wv sc.waits)
    (h1 : sc.last.length = 128) (h2 : ∀ l ∈ sc.waits, l.length = 128) (h3 : sc.waits.length ≤ 100000) (fl : Int) (st kp tn : Int) :
    Calls Tryz.prog 71 #[.pointer (some ⟨g, o, none⟩), .agg #[.int .u8 fl, .int .i64 st, .int .i64 kp, .int .i64 tn]] w fun e w' => ∃ A c, e = .returned (.agg #[.slice A 128 c, .slice none 0 0]) ∧ w'.ownsRow w.heap.size 5 1 (.slice A 128 c) 128 ((sc.crash ⟨0, st, kp, tn⟩).last.map byteV) ∧ Below w.heap.size w w' ∧ Small (sc.crash ⟨0, st, kp, tn⟩).last := by
  obtain ⟨L, how, hFw, hTw⟩ := hW
  obtain ⟨A5, c5, rfl, -, -⟩ := own_form how
  obtain ⟨m, hm⟩ : ∃ m, sc.waits.length = m := ⟨_, rfl⟩
  rw [hm] at how q1 h3
  have hK : keepN sc ⟨0, st, kp, tn⟩ = min (max kp 0).toNat m := by unfold keepN; rw [hm]
  obtain ⟨K, hKe⟩ : ∃ K, keepN sc ⟨0, st, kp, tn⟩ = K := ⟨_, rfl⟩
  rw [hKe] at hK
  have HK := Lib.hid hK
  have HKE := Lib.hid hKe
  clear hKe
  have hKm : K ≤ m := by omega
  clear hK
  have k1 := ((Blk.new w 121 #[.int .u8 fl, .int .i64 st, .int .i64 kp, .int .i64 tn]).alloc (.cells #[.slice none 0 0, .slice none 0 0] 71))
  have k2 := Blk.new (w.alloc (.cells #[.int .u8 fl, .int .i64 st, .int .i64 kp, .int .i64 tn] 121)) 71 #[.slice none 0 0, .slice none 0 0]
  rw [World.size_alloc] at k2
  have hb0 : Below w.heap.size w ((w.alloc (.cells #[.int .u8 fl, .int .i64 st, .int .i64 kp, .int .i64 tn] 121)).alloc (.cells #[.slice none 0 0, .slice none 0 0] 71)) := ((Below.refl _ _).alloc (Nat.le_refl _) _).alloc (by simp) _
  go_enter Tryz.func71, Tryz.ntmps71
  go_upto_region 1 with fail
  generalize World.alloc (World.alloc w _) _ = W0 at *
  have c2 : W0.cell? ⟨w.heap.size, 2, none⟩ = some (.int .i64 kp) := k1.cell 2
  have c3 : W0.cell? ⟨w.heap.size, 3, none⟩ = some (.int .i64 tn) := k1.cell 3
  have p0 := (hb0.cell (p := ⟨g, o, none⟩) hgw).trans q0
  have p1 := (hb0.cell (p := ⟨g, o + 1, none⟩) hgw).trans q1
  have ht0 := ht.only (Only.of_below hb0 (fun _ => False)) fun _ _ _ q => q
  have hT0 := fun j u l q q' => (hTw j u l q q').only (Only.of_below hb0 (fun _ => False)) fun _ _ _ q => q
  have how0 := kept_below hb0 how
  clear q0 q1 ht hTw how
  go_cut [5] (fun s5 wx => s5 = .int .i64 (K : Nat) ∧ Drew W0 wx)
  case first =>
    rcases (show kp < 0 ∨ (0 ≤ kp ∧ kp ≤ (m : Int)) ∨ (m : Int) < kp from by omega) with z | ⟨z1, z2⟩ | z
    · have hK := HK.out
      obtain rfl : K = 0 := by omega
      clear hK
      go_quiet (fail)
      go_wp2
      go_meet
      case rel => exact ⟨by go_num, ⟨_, rfl⟩⟩
    · obtain ⟨q, rfl⟩ := Int.eq_ofNat_of_zero_le z1
      have hK := HK.out
      obtain rfl : K = q := by omega
      clear hK
      go_quiet (fail)
      go_wp2
      go_meet
      case rel => exact ⟨by go_num, ⟨_, rfl⟩⟩
    · have hK := HK.out
      obtain rfl : K = m := by omega
      clear hK
      have z1 : (0 : Int) ≤ kp := by omega
      go_quiet (fail)
      go_wp2
      go_meet
      case rel => exact ⟨by go_num, ⟨_, rfl⟩⟩
  case rest =>
    obtain ⟨rfl, hdw⟩ := hcut
    have c2' : wc.cell? ⟨w.heap.size, 2, none⟩ = some (.int .i64 kp) := by obtain ⟨q, rfl⟩ := hdw; exact c2
    have c3' : wc.cell? ⟨w.heap.size, 3, none⟩ = some (.int .i64 tn) := by obtain ⟨q, rfl⟩ := hdw; exact c3
    have k2' : Blk wc (w.heap.size + 1) 71 #[.slice none 0 0, .slice none 0 0] := by obtain ⟨q, rfl⟩ := hdw; exact k2
    have p0' : wc.cell? ⟨g, o, none⟩ = some lw := by obtain ⟨q, rfl⟩ := hdw; exact p0
    have p1' : wc.cell? ⟨g, o + 1, none⟩ = some (.slice A5 m c5) := by obtain ⟨q, rfl⟩ := hdw; exact p1
    have ht' : Txt wc F lw sc.last := ht0.only (Only.of_below (hdw.below W0.heap.size) (fun _ => False)) fun _ _ _ q => q
    have hT' := fun j u l q q' => (hT0 j u l q q').only (Only.of_below (hdw.below W0.heap.size) (fun _ => False)) fun _ _ _ q => q
    have how' := hdw.own how0
    have hb1 : Below w.heap.size w wc := hb0.trans (hdw.below _)
    clear c2 c3 k1 k2 p0 p1 ht0 hT0 how0 hb0 hdw
    clear W0
    obtain ⟨W1, rfl⟩ : ∃ W1 : World, W1 = wc := ⟨_, rfl⟩
    go_upto_if 21 with (fail)
    go_cut [6] (fun s6 wx => W1 = wx ∧ Txt wx F s6 (keptL sc K))
    case first =>
      rcases Nat.eq_zero_or_pos K with hz | hz
      · subst hz
        have hk0 : keptL sc 0 = sc.last := if_pos rfl
        rw [← hk0] at ht'
        clear hk0
        have HT := Lib.hid ht'
        clear ht'
        obtain ⟨A6, c6, e6, -⟩ := HT.out.bytes
        subst e6
        go_wp2
        go_meet
        case rel => exact ⟨rfl, HT.out⟩
      · obtain ⟨b2, rfl, hb2, hb2'⟩ := own_pos how' (by omega)
        have hLl : L.length = m := by have := how'.1; omega
        have hu : L[K - 1]? = some (L[K - 1]'(by omega)) := List.getElem?_eq_getElem (by omega)
        have hl : sc.waits[K - 1]? = some (sc.waits[K - 1]'(by omega)) := List.getElem?_eq_getElem (by omega)
        have hx := hT' (K - 1) _ _ hu hl
        have hk0 : keptL sc K = sc.waits[K - 1]'(by omega) := by unfold keptL; rw [if_neg (by omega), hl]; rfl
        rw [← hk0] at hx
        have qc : W1.cell? ⟨b2, K - 1, none⟩ = some (L[K - 1]'(by omega)) := (how'.cellAt (K - 1) (by omega)).trans hu
        generalize L[K - 1]'(by omega) = u at *
        obtain ⟨q, rfl⟩ : ∃ q, K = q + 1 := ⟨K - 1, by omega⟩
        rw [Nat.add_sub_cancel] at qc
        have e1 : decide ((0 : Int) < ((q + 1 : Nat) : Int)) = true := by rw [decide_eq_true_iff]; omega
        have e2 : (((q + 1 : Nat) : Int)) - 1 = (q : Int) := by omega
        have e3 : (0 : Int) ≤ (q : Int) := by omega
        have e4 : (q : Int) < (m : Int) := by omega
        obtain ⟨A6, c6, e6, -⟩ := hx.bytes
        have HX := Lib.hid hx
        clear hx hu hl hk0 hT' ht'
        subst e6
        go_wp2
        go_meet
        case rel => exact ⟨rfl, HX.out⟩
    case rest =>
      obtain ⟨rfl, htx⟩ := hcut
      have hl128 := keptL_128 h1 h2 (k := K) (by omega)
      have hcr : (sc.crash ⟨0, st, kp, tn⟩).last = if K < m then (sc.waits[K]?.getD []).take (min (max tn 0).toNat 128) ++ (keptL sc K).drop (min (max tn 0).toNat 128) else keptL sc K := by
        unfold Sect.crash
        dsimp only
        rw [HKE.out, hm]
      have HCR := Lib.hid hcr
      clear hcr
      generalize hkl : keptL sc K = kl at *
      obtain ⟨A6, c6, rfl, hc6, hb6⟩ := htx.bytes
      have hcl := clone_any A6 c6 kl _ W1 hb6 (Nat.le_refl _) (by omega)
      rw [hl128] at hcl ⊢
      have fin : ∀ (w5 : World) (A : Option Addr) (c : Nat) (xs : List Nat), (sc.crash ⟨0, st, kp, tn⟩).last = xs → w5.ownsRow W1.heap.size 5 1 (.slice A 128 c) 128 (xs.map byteV) → Below W1.heap.size W1 w5 → Small xs → ∀ u v,
          ∃ A' c', Ending.returned (.agg #[.slice A 128 c, .slice none 0 0]) = .returned (.agg #[.slice A' 128 c', .slice none 0 0]) ∧ ((w5.setCell ⟨w.heap.size + 1, 0, none⟩ u).setCell ⟨w.heap.size + 1, 1, none⟩ v).ownsRow w.heap.size 5 1 (.slice A' 128 c') 128 ((sc.crash ⟨0, st, kp, tn⟩).last.map byteV) ∧ Below w.heap.size w ((w5.setCell ⟨w.heap.size + 1, 0, none⟩ u).setCell ⟨w.heap.size + 1, 1, none⟩ v) ∧ Small (sc.crash ⟨0, st, kp, tn⟩).last := fun w5 A c xs e ho hb hs u v => by
        have hlt := k2'.lt
        rw [e]
        refine ⟨A, c, rfl, ?_, (((hb1.trans (hb.mono hb1.size)).setCell (by simp) _).setCell (by simp) _), hs⟩
        have h0 : Only (fun b => b = w.heap.size + 1) w5 ((w5.setCell ⟨w.heap.size + 1, 0, none⟩ u).setCell ⟨w.heap.size + 1, 1, none⟩ v) := ((Only.refl (fun b => b = w.heap.size + 1) w5).setCell (p := ⟨w.heap.size + 1, 0, none⟩) (.inl rfl) _).setCell (p := ⟨w.heap.size + 1, 1, none⟩) (.inl rfl) _
        exact own_base hb1.size (h0.own ho fun k hk hk' => by subst hk'; have := (ho.lt _ hk).1; omega)
      have FIN := Lib.hid fin
      clear fin
      rcases Nat.lt_or_ge K m with hlt | hge
      · obtain ⟨b2, rfl, hb2, hb2'⟩ := own_pos how' (by omega)
        have hLl : L.length = m := by have := how'.1; omega
        have hu : L[K]? = some (L[K]'(by omega)) := List.getElem?_eq_getElem (by omega)
        have hl : sc.waits[K]? = some (sc.waits[K]'(by omega)) := List.getElem?_eq_getElem (by omega)
        have hx := hT' K _ _ hu hl
        have hw128 : (sc.waits[K]'(by omega)).length = 128 := h2 _ (List.getElem_mem _)
        have qc : W1.cell? ⟨b2, K, none⟩ = some (L[K]'(by omega)) := (how'.cellAt K (by omega)).trans hu
        have HCR2 := HCR.out
        rw [if_pos hlt, hl, Option.getD_some] at HCR2
        clear HCR
        have HCR := Lib.hid HCR2
        clear HCR2
        generalize L[K]'(by omega) = u at *
        generalize sc.waits[K]'(by omega) = wl at *
        obtain ⟨A7, c7, rfl, hc7, hb7⟩ := hx.bytes
        rw [hw128] at qc
        have e1 : decide ((K : Int) < (m : Int)) = true := by rw [decide_eq_true_iff]; omega
        have e3 : (0 : Int) ≤ (K : Int) := by omega
        have e4 : (K : Int) < (m : Int) := by omega
        have husz : (Tryz.prog.info? 5).map (·.size) = some 1 := by kernel_rfl
        clear hu hl hx hT' ht' how'
        go_wp2_with fail
        refine hcl.mono ?_
        rintro e w2 ⟨A2, c2, rfl, ho2, hb2w, hs2⟩
        rw [hl128] at ho2 ⊢
        obtain ⟨g2, rfl, hg2, hg2'⟩ := own_pos ho2 (by omega)
        have hc2 := own_cap ho2
        have hc2I : (128 : Int) ≤ (c2 : Int) := by omega
        have d2 := (hb2w.cell (p := ⟨w.heap.size, 3, none⟩) (by have := k2'.lt; show w.heap.size < _; omega)).trans c3'
        have d1 := (hb2w.cell (p := ⟨g, o + 1, none⟩) (by have := hb1.size; show g < _; omega)).trans p1'
        have dc := (hb2w.cell (p := ⟨b2, K, none⟩) hb2').trans qc
        have hb7' := hb7.below hb2w
        have ho2' : w2.drew.ownsRow W1.heap.size 5 1 (.slice (some ⟨g2, 0, none⟩) 128 c2) 128 (kl.map byteV) := ho2
        have hb7'' : Bytes w2.drew W1.heap.size A7 wl := hb7'.below ((Below.refl _ _).drew)
        have HO2 := Lib.hid ho2'
        have HB7 := Lib.hid hb7''
        have hb7s := hb7'.2
        clear ho2 hb7' ho2' hb7''
        have hk2w : Blk w2.drew (w.heap.size + 1) 71 #[.slice none 0 0, .slice none 0 0] := (k2'.below hb2w k2'.lt).drew
        have hk2lt := k2'.lt
        clear c2' c3' p0' p1' qc hb7 hcl k2'
        rcases (show tn < 0 ∨ (0 ≤ tn ∧ tn ≤ 128) ∨ 128 < tn from by omega) with z | ⟨z1, z2⟩ | z
        · have z1 : ¬ (0 : Int) ≤ tn := by omega
          go_wp2_with fail
          go_still_tail 15, (by kernel_rfl)
          change wpList _ _ _ _ _ w2.drew
          refine wpList_copy_at rfl (.tmp 46) (.tmp 53) 45 45 rfl 5 Tryz.underlying45 husz W1.heap.size g2 0 (0) c2 128 c2 (kl.map byteV) rfl HO2.out (by omega) W1.heap.size A7 128 c7 (wl.map byteV) rfl (by rw [List.length_map]; exact hw128) HB7.out.1 (bytes_oneCell _) ?_
          intro w5 ho5 hg5
          have hk5 := hk2w.grown hg5 (by intro e; injection e with e; omega)
          have f50 := hk5.frozen 0
          have f51 := hk5.frozen 1
          have c50 := hk5.cell 0
          have c51 := hk5.cell 1
          have hmn : min (max tn 0).toNat 128 = 0 := by omega
          have e5 := HCR.out
          rw [hmn] at e5
          rw [Nat.zero_add, List.take_zero, List.nil_append, ← List.map_take, ← List.map_drop, ← List.map_append, Nat.min_eq_right (show 0 ≤ 128 by omega)] at ho5
          have hb5 : Below W1.heap.size W1 w5 := (hb2w.trans ((below_drew0 w2).mono hb2w.size)).grown hg5 hb2w.size (fun k hk => by injection hk with hk; omega)
          have hsm : Small (wl.take (0) ++ kl.drop (0)) := small_append (fun x hx => hb7s x (List.mem_of_mem_take hx)) (fun x hx => hs2 x (List.mem_of_mem_drop hx))
          have F5 := Lib.hid (FIN.out w5 _ _ _ e5 ho5 hb5 hsm)
          clear e5 ho5 hb5 hg5 hmn
          go_wp2
          refine bodyPost_ret (v := .agg #[.slice (some ⟨g2, 0, none⟩) 128 c2, .slice none 0 0]) ?_ rfl (F5.out _ _)
          simp [results, Tryz.results71, go_sem, c50, c51]
        · obtain ⟨q, rfl⟩ := Int.eq_ofNat_of_zero_le z1
          have z3 : ((128 : Int) < (q : Int)) = False := eq_false (by omega)
          have z4 : (q : Int) ≤ (c2 : Int) := by omega
          have z5 : ((q : Int) < 0) = False := eq_false (by omega)
          go_wp2_with fail
          go_still_tail 15, (by kernel_rfl)
          change wpList _ _ _ _ _ w2.drew
          refine wpList_copy_at rfl (.tmp 46) (.tmp 53) 45 45 rfl 5 Tryz.underlying45 husz W1.heap.size g2 0 (q) c2 128 c2 (kl.map byteV) rfl HO2.out (by omega) W1.heap.size A7 128 c7 (wl.map byteV) rfl (by rw [List.length_map]; exact hw128) HB7.out.1 (bytes_oneCell _) ?_
          intro w5 ho5 hg5
          have hk5 := hk2w.grown hg5 (by intro e; injection e with e; omega)
          have f50 := hk5.frozen 0
          have f51 := hk5.frozen 1
          have c50 := hk5.cell 0
          have c51 := hk5.cell 1
          have hmn : min (max (q : Int) 0).toNat 128 = q := by omega
          have e5 := HCR.out
          rw [hmn] at e5
          rw [Nat.zero_add, List.take_zero, List.nil_append, ← List.map_take, ← List.map_drop, ← List.map_append, Nat.min_eq_right (show q ≤ 128 by omega)] at ho5
          have hb5 : Below W1.heap.size W1 w5 := (hb2w.trans ((below_drew0 w2).mono hb2w.size)).grown hg5 hb2w.size (fun k hk => by injection hk with hk; omega)
          have hsm : Small (wl.take (q) ++ kl.drop (q)) := small_append (fun x hx => hb7s x (List.mem_of_mem_take hx)) (fun x hx => hs2 x (List.mem_of_mem_drop hx))
          have F5 := Lib.hid (FIN.out w5 _ _ _ e5 ho5 hb5 hsm)
          clear e5 ho5 hb5 hg5 hmn
          go_wp2
          refine bodyPost_ret (v := .agg #[.slice (some ⟨g2, 0, none⟩) 128 c2, .slice none 0 0]) ?_ rfl (F5.out _ _)
          simp [results, Tryz.results71, go_sem, c50, c51]
        · have z1 : (0 : Int) ≤ tn := by omega
          have z5 : (tn < 0) = False := eq_false (by omega)
          go_wp2_with fail
          go_still_tail 15, (by kernel_rfl)
          change wpList _ _ _ _ _ w2.drew
          refine wpList_copy_at rfl (.tmp 46) (.tmp 53) 45 45 rfl 5 Tryz.underlying45 husz W1.heap.size g2 0 (128) c2 128 c2 (kl.map byteV) rfl HO2.out (by omega) W1.heap.size A7 128 c7 (wl.map byteV) rfl (by rw [List.length_map]; exact hw128) HB7.out.1 (bytes_oneCell _) ?_
          intro w5 ho5 hg5
          have hk5 := hk2w.grown hg5 (by intro e; injection e with e; omega)
          have f50 := hk5.frozen 0
          have f51 := hk5.frozen 1
          have c50 := hk5.cell 0
          have c51 := hk5.cell 1
          have hmn : min (max tn 0).toNat 128 = 128 := by omega
          have e5 := HCR.out
          rw [hmn] at e5
          rw [Nat.zero_add, List.take_zero, List.nil_append, ← List.map_take, ← List.map_drop, ← List.map_append, Nat.min_eq_right (show 128 ≤ 128 by omega)] at ho5
          have hb5 : Below W1.heap.size W1 w5 := (hb2w.trans ((below_drew0 w2).mono hb2w.size)).grown hg5 hb2w.size (fun k hk => by injection hk with hk; omega)
          have hsm : Small (wl.take (128) ++ kl.drop (128)) := small_append (fun x hx => hb7s x (List.mem_of_mem_take hx)) (fun x hx => hs2 x (List.mem_of_mem_drop hx))
          have F5 := Lib.hid (FIN.out w5 _ _ _ e5 ho5 hb5 hsm)
          clear e5 ho5 hb5 hg5 hmn
          go_wp2
          refine bodyPost_ret (v := .agg #[.slice (some ⟨g2, 0, none⟩) 128 c2, .slice none 0 0]) ?_ rfl (F5.out _ _)
          simp [results, Tryz.results71, go_sem, c50, c51]
      · have e1 : decide ((K : Int) < (m : Int)) = false := by rw [decide_eq_false_iff_not]; omega
        have e5 := HCR.out
        rw [if_neg (by omega)] at e5
        have hk2lt := k2'.lt
        clear hT' ht' how' c2' c3' p0'
        go_wp2_with fail
        refine hcl.mono ?_
        rintro e w2 ⟨A2, c2, rfl, ho2, hb2w, hs2⟩
        rw [hl128] at ho2 ⊢
        have d1 := (hb2w.cell (p := ⟨g, o + 1, none⟩) (by have := hb1.size; show g < _; omega)).trans p1'
        have hk5 := k2'.below hb2w k2'.lt
        have f50 := hk5.frozen 0
        have f51 := hk5.frozen 1
        have c50 := hk5.cell 0
        have c51 := hk5.cell 1
        have F5 := Lib.hid (FIN.out w2 _ _ _ e5 ho2 hb2w hs2)
        clear e5 ho2 hcl
        go_wp2
        refine bodyPost_ret (v := .agg #[.slice A2 128 c2, .slice none 0 0]) ?_ rfl (F5.out _ _)
        simp [results, Tryz.results71, go_sem, c50, c51]
def fateCells (x : FateP) : List Value := [.int .u8 (x.file : Int), .int .i64 x.sector, .int .i64 x.keep, .int .i64 x.torn]
def FatesAt (w : World) (B : Nat) (A : Option Addr) (l : List FateP) : Prop := At w B A (l.flatMap fateCells) ∧ ∀ x ∈ l, x.file < 256
theorem flat_length (l : List FateP) : (l.flatMap fateCells).length = 4 * l.length := by
  induction l with
  | nil => rfl
  | cons x l ih => simp [fateCells, ih]; omega
theorem flat_at {l : List FateP} {k : Nat} (hk : k < l.length) : (l.flatMap fateCells)[4 * k]? = some (.int .u8 (l[k].file : Int)) ∧ (l.flatMap fateCells)[4 * k + 1]? = some (.int .i64 l[k].sector) ∧ (l.flatMap fateCells)[4 * k + 2]? = some (.int .i64 l[k].keep) ∧ (l.flatMap fateCells)[4 * k + 3]? = some (.int .i64 l[k].torn) := by
  induction l generalizing k with
  | nil => simp at hk
  | cons x l ih =>
    cases k with
    | zero => exact ⟨rfl, rfl, rfl, rfl⟩
    | succ k =>
      have := ih (k := k) (by simpa using hk)
      rw [List.flatMap_cons]
      have e : ∀ j, (fateCells x ++ l.flatMap fateCells)[4 + j]? = (l.flatMap fateCells)[j]? := fun j => by
        rw [List.getElem?_append_right (by simp [fateCells])]
        simp [fateCells]
      refine ⟨?_, ?_, ?_, ?_⟩
      · rw [show 4 * (k + 1) = 4 + 4 * k by omega, e]; exact this.1
      · rw [show 4 * (k + 1) + 1 = 4 + (4 * k + 1) by omega, e]; exact this.2.1
      · rw [show 4 * (k + 1) + 2 = 4 + (4 * k + 2) by omega, e]; exact this.2.2.1
      · rw [show 4 * (k + 1) + 3 = 4 + (4 * k + 3) by omega, e]; exact this.2.2.2
theorem FatesAt.at_ {w : World} {B : Nat} {A : Option Addr} {l : List FateP} (h : FatesAt w B A l) {k : Nat} (hk : k < l.length) : ∃ b o, A = some ⟨b, o, none⟩ ∧ b < B ∧ w.cell? ⟨b, o + 4 * k, none⟩ = some (.int .u8 (l[k].file : Int)) ∧ w.cell? ⟨b, o + 4 * k + 1, none⟩ = some (.int .i64 l[k].sector) ∧ w.cell? ⟨b, o + 4 * k + 2, none⟩ = some (.int .i64 l[k].keep) ∧ w.cell? ⟨b, o + 4 * k + 3, none⟩ = some (.int .i64 l[k].torn) ∧ l[k].file < 256 := by
  obtain ⟨f0, f1, f2, f3⟩ := flat_at hk
  have hl := flat_length l
  obtain ⟨b, o, e, hb, c0⟩ := h.1 (4 * k) (by omega)
  have g : ∀ j, 4 * k + j < (l.flatMap fateCells).length → w.cell? ⟨b, o + 4 * k + j, none⟩ = (l.flatMap fateCells)[4 * k + j]? := fun j hj => by
    obtain ⟨b', o', e', _, c⟩ := h.1 (4 * k + j) hj
    rw [e] at e'
    injection e' with e'
    injection e' with e1 e2
    subst e1
    subst e2
    rw [Nat.add_assoc, c, List.getElem?_eq_getElem hj]
  exact ⟨b, o, e, hb, by have := g 0 (by omega); rw [Nat.add_zero, Nat.add_zero] at this; exact this.trans f0, (g 1 (by omega)).trans f1, (g 2 (by omega)).trans f2, (g 3 (by omega)).trans f3, h.2 _ (List.getElem_mem hk)⟩
theorem FatesAt.below {w w' : World} {B : Nat} {A : Option Addr} {l : List FateP} (h : FatesAt w B A l) (hb : Below B w w') : FatesAt w' B A l := ⟨h.1.below hb, h.2⟩
def matchB (x : FateP) (n k : Nat) : Bool := decide (x.file = n) && decide (x.sector = (k : Int))
set_option maxHeartbeats 400000 in
theorem match_any (x : FateP) (hx : x.file < 256) (n k : Nat) (hk : k < 1000000) (hn : n < 1000000) (b1 b2 : Nat) (w : World) (c1 : w.cell? ⟨b1, 0, none⟩ = some (.int .i64 n)) (c2 : w.cell? ⟨b2, 0, none⟩ = some (.int .i64 k)) (h1 : b1 < w.heap.size) (h2 : b2 < w.heap.size) :
    Calls Tryz.prog 70 #[.agg #[.int .u8 x.file, .int .i64 x.sector, .int .i64 x.keep, .int .i64 x.torn], .pointer (some ⟨b1, 0, none⟩), .pointer (some ⟨b2, 0, none⟩)] w fun e w' => e = .returned (.bool (matchB x n k)) ∧ Below w.heap.size w w' := by
  obtain ⟨fl, st, kp, tn⟩ := x
  simp only at hx ⊢
  have hz : Below w.heap.size w (w.alloc (.cells #[.int .u8 fl, .int .i64 st, .int .i64 kp, .int .i64 tn] 121)) := (Below.refl _ _).alloc (Nat.le_refl _) _
  by_cases hf : fl = n
  · have e1 : (((fl : Nat) : Int) == (n : Int)) = true := by rw [beq_iff_eq]; omega
    by_cases hs : st = (k : Int)
    · have e2 : (st == (k : Int)) = true := by rw [beq_iff_eq]; omega
      have e : matchB ⟨fl, st, kp, tn⟩ n k = true := by unfold matchB; simp [hf, hs]
      rw [e]
      clear e hf hs
      go_enter Tryz.func70, Tryz.ntmps70
      go_wp2
      go_ret
      exact ⟨rfl, hz⟩
    · have e2 : (st == (k : Int)) = false := by rw [beq_eq_false_iff_ne]; omega
      have e : matchB ⟨fl, st, kp, tn⟩ n k = false := by unfold matchB; simp [hf, hs]
      rw [e]
      clear e hf hs
      go_enter Tryz.func70, Tryz.ntmps70
      go_wp2
      go_ret
      exact ⟨rfl, hz⟩
  · have e1 : (((fl : Nat) : Int) == (n : Int)) = false := by rw [beq_eq_false_iff_ne]; omega
    have e : matchB ⟨fl, st, kp, tn⟩ n k = false := by unfold matchB; simp [hf]
    rw [e]
    clear e hf
    go_enter Tryz.func70, Tryz.ntmps70
    go_wp2
    go_ret
    exact ⟨rfl, hz⟩
def idxI (l : List FateP) (n k : Nat) : Int :=
  match l.findIdx? fun x => matchB x n k with
  | some i => (i : Int)
  | none => -1
theorem idxI_none {l : List FateP} {n k : Nat} (h : ∀ j (hj : j < l.length), matchB l[j] n k = false) : idxI l n k = -1 := by
  unfold idxI
  rw [List.findIdx?_eq_none_iff.2 fun x hx => by
    obtain ⟨j, hj, rfl⟩ := List.mem_iff_getElem.1 hx
    exact h j hj]
theorem idxI_some {l : List FateP} {n k i : Nat} (hi : i < l.length) (h1 : matchB l[i] n k = true) (h : ∀ j (hj : j < l.length), j < i → matchB l[j] n k = false) : idxI l n k = (i : Int) := by
  unfold idxI
  rw [List.findIdx?_eq_some_iff_getElem.2 ⟨hi, h1, fun j hj => by simp [h j (by omega) hj]⟩]
theorem fate_of_idx (l : List FateP) (n k : Nat) : (idxI l n k = -1 ∧ fateFor l n k = FateP.zero) ∨ ∃ i, ∃ h : i < l.length, idxI l n k = (i : Int) ∧ fateFor l n k = l[i] := by
  by_cases h : ∃ i, ∃ hi : i < l.length, matchB l[i] n k = true ∧ ∀ j (hj : j < l.length), j < i → matchB l[j] n k = false
  · right
    obtain ⟨i, hi, h1, h2⟩ := h
    refine ⟨i, hi, idxI_some hi h1 h2, ?_⟩
    have e : fateFor l n k = (l.find? fun x => matchB x n k).getD FateP.zero := rfl
    have e2 : (l.find? fun x => matchB x n k) = some l[i] := List.find?_eq_some_iff_getElem.2 ⟨h1, i, hi, rfl, fun j hj => by simp [h2 j (by omega) hj]⟩
    rw [e, e2]
    rfl
  · left
    have hn : ∀ j (hj : j < l.length), matchB l[j] n k = false := by
      intro j
      induction j using Nat.strongRecOn with
      | ind j ih =>
        intro hj
        cases hm : matchB l[j] n k with
        | false => rfl
        | true => exact absurd ⟨j, hj, hm, fun i hi hij => ih i hij hi⟩ h
    refine ⟨idxI_none hn, ?_⟩
    have e : fateFor l n k = (l.find? fun x => matchB x n k).getD FateP.zero := rfl
    have e2 : (l.find? fun x => matchB x n k) = none := List.find?_eq_none.2 fun x hx => by
      obtain ⟨j, hj, rfl⟩ := List.mem_iff_getElem.1 hx
      simp [hn j hj]
    rw [e, e2]
    rfl
set_option maxHeartbeats 400000 in
theorem index_any (A : Option Addr) (c : Nat) (l : List FateP) (B : Nat) (w : World) (hl : FatesAt w B A l) (hB : B ≤ w.heap.size) (hn : l.length ≤ 100000) (n k : Nat) (hk1 : k < 1000000) (hn1 : n < 1000000) (b1 b2 : Nat) (c1 : w.cell? ⟨b1, 0, none⟩ = some (.int .i64 n)) (c2 : w.cell? ⟨b2, 0, none⟩ = some (.int .i64 k)) (h1 : b1 < w.heap.size) (h2 : b2 < w.heap.size) :
    Calls Tryz.prog 69 #[.slice A l.length c, .func (.func 70) #[] #[.pointer (some ⟨b1, 0, none⟩), .pointer (some ⟨b2, 0, none⟩)]] w fun e w' => e = .returned (.int .i64 (idxI l n k)) ∧ Below w.heap.size w w' := by
  go_enter Tryz.func69, Tryz.ntmps69
  go_wp2_with fail
  go_loopw [8, 5] (fun i j wr => ∃ q : Nat, q ≤ l.length ∧ i = .int .i64 q ∧ Hid (∀ j (hj : j < l.length), j < q → matchB l[j] n k = false) ∧ Below w.heap.size w wr) (fun i _ _ => l.length - (intOf i).toNat)
  case atStart => exact ⟨0, Nat.zero_le _, rfl, fun j hj h => absurd h (by omega), Below.refl _ _⟩
  case round =>
    obtain ⟨q, hq, rfl, H, hb⟩ := hrel
    rcases Nat.lt_or_ge q l.length with hlt | hge
    · have e1 : decide ((q : Int) < (l.length : Int)) = true := by rw [decide_eq_true_iff]; omega
      have e2 : (0 : Int) ≤ (q : Int) := by omega
      have e3 : (q : Int) < (l.length : Int) := by omega
      obtain ⟨b, o, rfl, hb1, x0, x1, x2, x3, hx⟩ := (hl.below (hb.mono hB)).at_ hlt
      rw [Nat.mul_comm 4 q] at x0 x1 x2 x3
      have d1 := (hb.cell (p := ⟨b1, 0, none⟩) h1).trans c1
      have d2 := (hb.cell (p := ⟨b2, 0, none⟩) h2).trans c2
      have hsz := hb.size
      have hm := fun W (hW : Below wr.heap.size wr W) => match_any l[q] hx n k hk1 hn1 b1 b2 W ((hW.cell (p := ⟨b1, 0, none⟩) (Nat.lt_of_lt_of_le h1 hsz)).trans d1) ((hW.cell (p := ⟨b2, 0, none⟩) (Nat.lt_of_lt_of_le h2 hsz)).trans d2) (Nat.lt_of_lt_of_le (Nat.lt_of_lt_of_le h1 hsz) hW.size) (Nat.lt_of_lt_of_le (Nat.lt_of_lt_of_le h2 hsz) hW.size)
      have Hy := Lib.hid (fun (hmm : matchB l[q] n k = true) => idxI_some hlt hmm fun j hj hjq => H.out j hj hjq)
      have Hn : Hid (matchB l[q] n k = false → ∀ j (hj : j < l.length), j < q + 1 → matchB l[j] n k = false) := fun hmm j hj hjq => by
        rcases Nat.lt_or_ge j q with z | z
        · exact H.out j hj z
        · obtain rfl : j = q := by omega
          exact hmm
      clear c1 c2 hl H
      cases hmm : matchB l[q] n k with
      | false =>
        rw [hmm] at hm
        have HN := Lib.hid (Hn.out hmm)
        clear Hy Hn hmm
        generalize l[q] = x at *
        go_wp2_with fail
        refine (hm _ (Below.refl _ _)).mono ?_
        rintro e w1 ⟨rfl, hb2⟩
        go_wp2
        go_roundw
        case rel => exact ⟨q + 1, by omega, by go_num, HN, hb.trans (hb2.mono hsz)⟩
        case measure => simp [intOf]; omega
      | true =>
        rw [hmm] at hm
        have HY := Lib.hid (Hy.out hmm)
        clear Hy Hn hmm
        generalize l[q] = x at *
        go_wp2_with fail
        refine (hm _ (Below.refl _ _)).mono ?_
        rintro e w1 ⟨rfl, hb2⟩
        go_wp2
        go_ret
        exact ⟨ret_int HY.out.symm, hb.trans (hb2.mono hsz)⟩
    · obtain rfl : q = l.length := by omega
      have e1 : decide ((l.length : Int) < (l.length : Int)) = false := by rw [decide_eq_false_iff_not]; omega
      have HY := Lib.hid (idxI_none (l := l) (n := n) (k := k) fun j hj => H.out j hj hj)
      clear hl H
      go_wp2
      go_ret
      exact ⟨ret_int HY.out.symm, hb⟩
def crashG (l : List FateP) (n : Nat) (k : Nat) (s : Sect) : Sect := s.crash (fateFor l n k)
def crashF (f : Nat → List Sect) (l : List FateP) (q m : Nat) : List Sect := if m < q then (f m).mapIdx (crashG l m) else f m
theorem crashF_zero (f : Nat → List Sect) (l : List FateP) : crashF f l 0 = f := by
  funext m
  exact if_neg (by omega)
theorem crashF_length (f : Nat → List Sect) (l : List FateP) (q m : Nat) : (crashF f l q m).length = (f m).length := by
  unfold crashF
  split
  · rw [List.length_mapIdx]
  · rfl
theorem crashF_at (f : Nat → List Sect) (l : List FateP) (q : Nat) : crashF f l q q = f q := if_neg (by omega)
theorem crashF_next (f : Nat → List Sect) (l : List FateP) (q k : Nat) (hk : k = (f q).length) : stepF (crashF f l q) q (crashG l q) k = crashF f l (q + 1) := by
  rw [stepF_all _ _ _ (by rw [crashF_length]; exact hk)]
  funext m
  by_cases e : m = q
  · subst e
    rw [if_pos rfl, crashF_at]
    exact (if_pos (by omega)).symm
  · rw [if_neg e]
    unfold crashF
    by_cases h : m < q
    · rw [if_pos h, if_pos (by omega)]
    · rw [if_neg h, if_neg (by omega)]
theorem idxI_ge (l : List FateP) (n k : Nat) : -1 ≤ idxI l n k := by
  unfold idxI
  split <;> omega
theorem FatesAt.only {w w' : World} {S : Nat → Prop} {B : Nat} {A : Option Addr} {l : List FateP} (h : FatesAt w B A l) (ho : Only S w w') (hs : ∀ b o, A = some ⟨b, o, none⟩ → 0 < l.length → ¬ S b) (hB : B ≤ w.heap.size := by exact Nat.le_refl _) : FatesAt w' B A l :=
  ⟨fun j hj => by
    obtain ⟨b, o, e, hb, hc⟩ := h.1 j hj
    exact ⟨b, o, e, hb, (ho.cell (p := ⟨b, o + j, none⟩) (Nat.lt_of_lt_of_le hb hB) (hs b o e (by have := flat_length l; omega))).trans hc⟩, h.2⟩
section
variable {D : DevP} {w : World} {F : Nat → Prop} {gp : Nat} {s : Nat → Value} {lv : Value} {X : Nat → List Value}
theorem DevAt.calm (h : DevAt D w F gp s lv X) : DevAt ⟨D.f, none, false⟩ ((w.setCell ⟨gp, 2, none⟩ (.pointer none)).setCell ⟨gp, 3, none⟩ (.bool false)) F gp s (.pointer none) X ∧ Only (Hard F w) w ((w.setCell ⟨gp, 2, none⟩ (.pointer none)).setCell ⟨gp, 3, none⟩ (.bool false)) := by
  have ho : Only (fun b => b = gp) w ((w.setCell ⟨gp, 2, none⟩ (.pointer none)).setCell ⟨gp, 3, none⟩ (.bool false)) := ((Only.refl (fun b => b = gp) w).setCell (p := ⟨gp, 2, none⟩) (.inl rfl) _).setCell (p := ⟨gp, 3, none⟩) (.inl rfl) _
  have hfar : Far w 71 (fun b => b = gp) := fun b q hb => by
    subst q
    exact ⟨_, h.blk.ty, by decide, by decide, by decide⟩
  exact ⟨⟨h.toFilesAt.far ho hfar, (h.blk.set_ 2 _).set_ 3 _, h.inF, rfl⟩, ho.mono fun b q => .inl (by subst q; exact ⟨h.inF, fun hu => absurd (hu.uniq' h.blk.ty) (by decide)⟩)⟩
theorem DevAt.grown (h : DevAt D w F gp s lv X) {w' : World} {F' : Nat → Prop} (hb : Below w.heap.size w w') (hF : ∀ b, F b → F' b) : DevAt D w' F' gp s lv X := by
  have ho : Only (fun _ => False) w w' := Only.of_below hb _
  exact ⟨(h.toFilesAt.only ho fun _ _ q => q).mono hF, h.blk.only ho fun q => q, hF _ h.inF, (h.left.only ho fun _ _ q => q).mono hF⟩
set_option maxHeartbeats 2000000 in
theorem crash_some (h : DevAt D w F gp s lv X) (hF : ∀ b, F b → b < w.heap.size) {N : Nat} (hG : D.good N) (hN : N ≤ 100000) (A : Option Addr) (c : Nat) (l : List FateP) (hl : FatesAt w w.heap.size A l) (hlF : ∀ b o, A = some ⟨b, o, none⟩ → 0 < l.length → ¬ F b) (hln : l.length ≤ 100000) :
    Calls Tryz.prog 19 #[.pointer (some ⟨gp, 0, none⟩), .slice A l.length c] w fun e w' => e = .returned (.tuple #[]) ∧ DevPost (D.crash l) F (.pointer (some ⟨gp, 0, none⟩)) w w' := by
  have z2 := h.blk.frozen 2
  have z3 := h.blk.frozen 3
  have z4 := h.blk.cell 2
  have z5 := h.blk.cell 3
  have hgw := h.blk.lt
  obtain ⟨hc, hco⟩ := h.calm
  have hrows : ∀ n, n < 2 → ∃ A c, s n = .slice A (D.f n).length c ∧ ∀ g o, A = some ⟨g, o, none⟩ → o = 0 ∧ g < w.heap.size ∧ Hard F w g := fun n hn => by
    have ho := (h.file n hn).1
    have hFn := (h.file n hn).2.1
    obtain ⟨A, c, e, -, -⟩ := own_form ho
    refine ⟨A, c, e, fun g o eA => ?_⟩
    subst eA
    rw [e] at ho
    rcases ho.2 with ⟨e', _⟩ | ⟨g', cap, cur, e', _⟩
    · cases e'
    · injection e' with e' _ _
      injection e' with e'
      injection e' with e1 e2
      exact ⟨e2, (ho.lt g rfl).2, hFn g (by rw [e]; rfl), fun hu => absurd (hu.uniq' (own_ty ho rfl)) (by decide)⟩
  clear h
  go_enter Tryz.func19, Tryz.ntmps19
  go_wp2_with fail
  go_loopw [14, 4, 5, 6, 7] (fun i _ _ _ _ wr => ∃ q : Nat, q ≤ 2 ∧ i = .int .i64 q ∧ (∃ Xk, DevAt ⟨crashF D.f l q, none, false⟩ wr (grow F w wr) gp s (.pointer none) Xk) ∧ Only (Hard F w) w wr) (fun i _ _ _ _ _ => 2 - (intOf i).toNat)
  case atStart => exact ⟨0, by omega, rfl, ⟨X, by rw [crashF_zero]; exact hc.grown (Below.refl _ _) fun b q => .inl q⟩, hco⟩
  case round =>
    clear hc hco z2 z3 z4 z5
    obtain ⟨q, hq, rfl, ⟨Xq, hd⟩, hO⟩ := hrel
    rcases Nat.lt_or_ge q 2 with hlt | hge
    · have e1 : decide ((q : Int) < 2) = true := by rw [decide_eq_true_iff]; omega
      have e2 : (0 : Int) ≤ (q : Int) := by omega
      have e3 : (q : Int) < 2 := by omega
      obtain ⟨Aq, cq, es, hgq⟩ := hrows q hlt
      have hOs := hO.size
      have hcq : ∀ W, Below wr.heap.size wr W → W.cell? ⟨gp, q, none⟩ = some (s q) := fun W hW => by
        refine (hW.cell (p := ⟨gp, q, none⟩) hd.blk.lt).trans ((hd.blk.cell q).trans ?_)
        rcases (show q = 0 ∨ q = 1 from by omega) with rfl | rfl <;> rfl
      have cq1 := hcq _ (((Below.refl wr.heap.size wr).alloc (Nat.le_refl _) (.cells #[.int .i64 q] 3)))
      rw [es] at cq1
      go_wp2_with fail
      go_quiet (fail)
      generalize hW0 : World.drewN _ _ = W0
      have hbW : Below wr.heap.size wr W0 := by rw [← hW0]; exact below_drewN ((Below.refl _ _).alloc (Nat.le_refl _) _) _
      have hk4 : Blk W0 wr.heap.size 3 #[.int .i64 q] := by rw [← hW0]; exact (Blk.new wr 3 #[.int .i64 q]).drewN _
      clear hW0
      have hgr : ∀ b, grow F w wr b → grow F w W0 b := fun b z => z.imp id fun y => ⟨y.1, Nat.lt_of_lt_of_le y.2 hbW.size⟩
      have hd0 := hd.grown hbW hgr
      have hO0 : Only (Hard F w) w W0 := hO.trans (Only.of_below hbW (fun _ => False)) fun _ z => z.elim
      have hcq0 := fun W (hW : Below W0.heap.size W0 W) => hcq W (hbW.trans (hW.mono hbW.size))
      clear hcq cq1 hd hO
      obtain ⟨b4, hb4⟩ : ∃ b4, wr.heap.size = b4 := ⟨_, rfl⟩
      rw [hb4] at hk4 ⊢
      have hb4w : w.heap.size ≤ b4 := by rw [← hb4]; exact hOs
      clear hgr hbW hb4
      obtain ⟨m, hm⟩ : ∃ m, (D.f q).length = m := ⟨_, rfl⟩
      have hm2 := (hG q hlt).1
      rw [hm] at es hm2
      rw [hm]
      have HM := Lib.hid hm
      clear hm
      go_wp2_with fail
      go_loopw [24, 5, 6, 7] (fun i _ _ _ wr => ∃ k : Nat, k ≤ m ∧ i = .int .i64 k ∧ (∃ Xk, DevAt ⟨stepF (crashF D.f l q) q (crashG l q) k, none, false⟩ wr (grow F w wr) gp s (.pointer none) Xk) ∧ Only (Hard F w) w wr ∧ Blk wr b4 3 #[.int .i64 q]) (fun i _ _ _ _ => m - (intOf i).toNat)
      case atStart => exact ⟨0, Nat.zero_le _, rfl, ⟨Xq, by rw [stepF_zero]; exact hd0⟩, hO0, hk4⟩
      case round =>
        clear hd0 hO0 hk4 hcq0
        obtain ⟨k, hk, rfl, ⟨Xk, hd⟩, hO, hk4⟩ := hrel
        rcases Nat.lt_or_ge k m with hlt2 | hge
        · have e4 : decide ((k : Int) < (m : Int)) = true := by rw [decide_eq_true_iff]; omega
          have hlr := hl.only hO (fun b o e hl0 => fun z => hlF b o e hl0 z.1)
          have k5 := Blk.new wr 3 #[.int .i64 k]
          have k6 := Blk.new (wr.alloc (.cells #[.int .i64 k] 3)) 121 #[.int .u8 0, .int .i64 0, .int .i64 0, .int .i64 0]
          have hbW : Below wr.heap.size wr ((wr.alloc (.cells #[.int .i64 k] 3)).alloc (.cells #[.int .u8 0, .int .i64 0, .int .i64 0, .int .i64 0] 121)) := ((Below.refl _ _).alloc (Nat.le_refl _) _).alloc (by simp) _
          replace k5 := k5.alloc (.cells #[.int .u8 0, .int .i64 0, .int .i64 0, .int .i64 0] 121)
          rw [World.size_alloc] at k6
          have k4 := hk4.below hbW hk4.lt
          have hOs := hO.size
          have hlW := hlr.below (hbW.mono hOs)
          have h4w := hk4.lt
          go_wp2_with fail
          generalize World.alloc (World.alloc wr _) _ = W0 at *
          have hi := index_any A c l _ W0 hlW (Nat.le_trans hOs hbW.size) hln q k (by omega) (by omega) b4 wr.heap.size (k4.cell 0) (k5.cell 0) k4.lt k5.lt
          refine hi.mono ?_
          rintro e W1 ⟨rfl, hb1⟩
          have hb2 : Below wr.heap.size wr W1 := hbW.trans (hb1.mono hbW.size)
          replace k4 := k4.below hb1 k4.lt
          replace k5 := k5.below hb1 k5.lt
          replace k6 := k6.below hb1 k6.lt
          replace hlW := hlW.below (hb1.mono (Nat.le_trans hOs hbW.size))
          clear hi hb1 hbW hlr
          clear W0
          have hfa := fate_of_idx l q k
          have hgI := idxI_ge l q k
          generalize hix : idxI l q k = ix at *
          clear hix
          go_upto_if 31 with (fail)
          go_cut [] (fun wx => ∃ fl : Nat, Blk wx (wr.heap.size + 1) 121 #[.int .u8 fl, .int .i64 (fateFor l q k).sector, .int .i64 (fateFor l q k).keep, .int .i64 (fateFor l q k).torn] ∧ Blk wx b4 3 #[.int .i64 q] ∧ Blk wx wr.heap.size 3 #[.int .i64 k] ∧ Below wr.heap.size wr wx)
          case first =>
            rcases hfa with ⟨h1, h2⟩ | ⟨i, hi, h1, h2⟩
            · subst h1
              have H2 := Lib.hid h2
              clear h2 hgI
              go_wp2
              go_meet
              case rel => exact ⟨0, by rw [H2.out]; exact k6, k4, k5, hb2⟩
            · subst h1
              obtain ⟨b, o, eA, hbB, x0, x1, x2, x3, hx⟩ := hlW.at_ hi
              subst eA
              rw [Nat.mul_comm 4 i] at x0 x1 x2 x3
              have z1 : decide ((0 : Int) ≤ (i : Int)) = true := by rw [decide_eq_true_iff]; omega
              have z2 : (0 : Int) ≤ (i : Int) := by omega
              have z3 : (i : Int) < (l.length : Int) := by omega
              have H2 := Lib.hid h2
              clear h2 hgI hlW
              generalize l[i] = x at *
              obtain ⟨fl, st, kp, tn⟩ := x
              simp only at x0 x1 x2 x3 hx
              have g0 := k6.frozen 0
              have g1 := k6.frozen 1
              have g2 := k6.frozen 2
              have g3 := k6.frozen 3
              have y0 := k6.cell 0
              have y1 := k6.cell 1
              have y2 := k6.cell 2
              have y3 := k6.cell 3
              have fin6 := (((k6.set_ 0 (.int .u8 fl)).set_ 1 (.int .i64 st)).set_ 2 (.int .i64 kp)).set_ 3 (.int .i64 tn)
              have h54 : b4 ≠ wr.heap.size + 1 := by omega
              have fin4 := (((k4.far (p := ⟨wr.heap.size + 1, 0, none⟩) h54 (.int .u8 fl)).far (p := ⟨wr.heap.size + 1, 1, none⟩) h54 (.int .i64 st)).far (p := ⟨wr.heap.size + 1, 2, none⟩) h54 (.int .i64 kp)).far (p := ⟨wr.heap.size + 1, 3, none⟩) h54 (.int .i64 tn)
              have h55 : wr.heap.size ≠ wr.heap.size + 1 := by omega
              have fin5 := (((k5.far (p := ⟨wr.heap.size + 1, 0, none⟩) h55 (.int .u8 fl)).far (p := ⟨wr.heap.size + 1, 1, none⟩) h55 (.int .i64 st)).far (p := ⟨wr.heap.size + 1, 2, none⟩) h55 (.int .i64 kp)).far (p := ⟨wr.heap.size + 1, 3, none⟩) h55 (.int .i64 tn)
              have h56 : wr.heap.size ≤ wr.heap.size + 1 := by omega
              have finb := (((hb2.setCell (p := ⟨wr.heap.size + 1, 0, none⟩) h56 (.int .u8 fl)).setCell (p := ⟨wr.heap.size + 1, 1, none⟩) h56 (.int .i64 st)).setCell (p := ⟨wr.heap.size + 1, 2, none⟩) h56 (.int .i64 kp)).setCell (p := ⟨wr.heap.size + 1, 3, none⟩) h56 (.int .i64 tn)
              simp only [List.setIfInBounds_toArray, List.set_cons_succ, List.set_cons_zero] at fin6
              have FIN := Lib.hid (And.intro fin6 (And.intro fin4 (And.intro fin5 finb)))
              clear fin6 fin4 fin5 finb h54 h55 h56 k4 k5 k6 hb2
              go_wp2
              go_meet
              case rel => exact ⟨fl, by rw [H2.out]; exact FIN.out.1, FIN.out.2.1, FIN.out.2.2.1, FIN.out.2.2.2⟩
          case rest =>
            obtain ⟨fl, k6', k4', k5', hb⟩ := hcut
            clear k4 k5 k6 hb2 hfa hlW hk4
            have hgr : ∀ b, grow F w wr b → grow F w wc b := fun b z => z.imp id fun y => ⟨y.1, Nat.lt_of_lt_of_le y.2 hb.size⟩
            have hdc := hd.grown hb hgr
            clear hgr
            have hOc : Only (Hard F w) w wc := hO.trans (Only.of_below hb (fun _ => False)) fun _ z => z.elim
            have hk0 : k < (D.f q).length := by rw [HM.out]; exact hlt2
            have hkc : k < (crashF D.f l q q).length := by rw [crashF_at]; exact hk0
            have hkl : k < (stepF (crashF D.f l q) q (crashG l q) k q).length := by rw [stepF_length]; exact hkc
            have hAt : (stepF (crashF D.f l q) q (crashG l q) k q)[k] = (D.f q)[k] := by rw [stepF_at _ _ _ hkc hkl]; congr 1; exact crashF_at _ _ _
            have hnx := stepF_next (crashF D.f l q) q (crashG l q) hkc
            rw [show (crashF D.f l q q)[k] = (D.f q)[k] by congr 1; exact crashF_at _ _ _] at hnx
            obtain ⟨g, c', lw, wv, es', qc0, qc1, ht, hW, -, -, -, -⟩ := sector_at hdc hlt hkl
            rw [show (DevP.f ⟨stepF (crashF D.f l q) q (crashG l q) k, none, false⟩ q)[k]'hkl = (D.f q)[k] from hAt] at ht hW
            have es2 := es'
            rw [es] at es'
            injection es' with q1 q2 q3
            subst q1
            subst q3
            clear q2
            obtain ⟨r1, r2, r3⟩ := hG.at_ hlt hk0
            have hgw : g < w.heap.size := (hgq g 0 rfl).2.1
            have hgH := (hgq g 0 rfl).2.2
            have hgwc : g < wc.heap.size := Nat.lt_of_lt_of_le hgw hOc.size
            have hcr : ∀ W, Below wc.heap.size wc W → Calls Tryz.prog 71 #[.pointer (some ⟨g, k * 2, none⟩), .agg #[.int .u8 fl, .int .i64 (fateFor l q k).sector, .int .i64 (fateFor l q k).keep, .int .i64 (fateFor l q k).torn]] W fun e w' => ∃ A c, e = .returned (.agg #[.slice A 128 c, .slice none 0 0]) ∧ w'.ownsRow W.heap.size 5 1 (.slice A 128 c) 128 ((crashG l q k (D.f q)[k]).last.map byteV) ∧ Below W.heap.size W w' ∧ Small (crashG l q k (D.f q)[k]).last := fun W hWb => by
              rw [Nat.mul_comm k 2]
              exact crashS_any g (2 * k) lw wv (D.f q)[k] W (grow F w wc) ((hWb.cell (p := ⟨g, 2 * k, none⟩) hgwc).trans qc0) ((hWb.cell (p := ⟨g, 2 * k + 1, none⟩) hgwc).trans qc1) (Nat.lt_of_lt_of_le hgwc hWb.size) (ht.only (Only.of_below hWb (fun _ => False)) fun _ _ _ z => z) (hW.only (Only.of_below hWb (fun _ => False)) (fun _ _ _ z => z) fun _ _ z => z) r1 r3 (by omega) fl _ _ _
            have hgp : wc.cell? ⟨gp, q, none⟩ = some (.slice (some ⟨g, 0, none⟩) m cq) := by
              rw [← es]
              refine (hdc.blk.cell q).trans ?_
              rcases (show q = 0 ∨ q = 1 from by omega) with rfl | rfl <;> rfl
            have hrow := (hdc.file q hlt).1
            rw [es2] at hrow
            have h4c := k4'.cell 0
            have h5c := k5'.cell 0
            have h60 := k6'.cell 0
            have h61 := k6'.cell 1
            have h62 := k6'.cell 2
            have h63 := k6'.cell 3
            have hl128 := crash_128 r1 r3 (fateFor l q k)
            have hgpl := hdc.blk.lt
            have hgpg : ¬ gp = g := fun z => by subst z; exact absurd (hdc.blk.ty.uniq (own_ty hrow rfl)) (by decide)
            have n4 : ¬ b4 = g := by omega
            have n5 : ¬ wr.heap.size = g := by omega
            have n6 : ¬ wr.heap.size + 1 = g := by omega
            have h4l := k4'.lt
            have h5l := k5'.lt
            have h6l := k6'.lt
            generalize hsc : crashG l q k (D.f q)[k] = sc' at *
            have hl128' : sc'.last.length = 128 := by rw [← hsc]; exact hl128
            have hw0 : sc'.waits = [] := by rw [← hsc]; rfl
            have hnext : ∀ W, Below wc.heap.size wc W → ∀ (A2 : Option Addr) (c2 : Nat), W.ownsRow wc.heap.size 5 1 (.slice A2 128 c2) 128 (sc'.last.map byteV) → Small sc'.last →
                (∃ Xk, DevAt ⟨stepF (crashF D.f l q) q (crashG l q) (k + 1), none, false⟩ ((W.setCell ⟨g, k * 2, none⟩ (.slice A2 128 c2)).setCell ⟨g, k * 2 + 1, none⟩ (.slice none 0 0)) (grow F w ((W.setCell ⟨g, k * 2, none⟩ (.slice A2 128 c2)).setCell ⟨g, k * 2 + 1, none⟩ (.slice none 0 0))) gp s (.pointer none) Xk) ∧
                Only (Hard F w) w ((W.setCell ⟨g, k * 2, none⟩ (.slice A2 128 c2)).setCell ⟨g, k * 2 + 1, none⟩ (.slice none 0 0)) ∧ Blk ((W.setCell ⟨g, k * 2, none⟩ (.slice A2 128 c2)).setCell ⟨g, k * 2 + 1, none⟩ (.slice none 0 0)) b4 3 #[.int .i64 q] := fun W hWb A2 c2 ho2 hs2 => by
              have hsz := hWb.size
              have hszz : ((W.setCell ⟨g, k * 2, none⟩ (.slice A2 128 c2)).setCell ⟨g, k * 2 + 1, none⟩ (.slice none 0 0)).heap.size = W.heap.size := by simp [World.setCell]
              have hwc := hOc.size
              have hgr : ∀ b, grow F w wc b → grow F w W b := fun b z => z.imp id fun y => ⟨y.1, Nat.lt_of_lt_of_le y.2 hsz⟩
              have hdW := hdc.grown hWb hgr
              have htx : Txt W (grow F w W) (.slice A2 128 c2) sc'.last := Txt.own ho2 hl128' hs2 fun b e => .inr ⟨Nat.le_trans hwc (ho2.lt b e).1, (ho2.lt b e).2⟩
              have := hdW.set2 hlt hkl es2 htx fun b z => z
              rw [Nat.mul_comm 2 k] at this
              have hp : (DevP.put ⟨stepF (crashF D.f l q) q (crashG l q) k, none, false⟩ q k ⟨sc'.last, []⟩) = ⟨stepF (crashF D.f l q) q (crashG l q) (k + 1), none, false⟩ := by
                unfold DevP.put
                rw [← hnx, ← hw0]
              rw [hp] at this
              refine ⟨⟨_, by unfold grow; rw [hszz]; exact this⟩, ?_, ?_⟩
              · have hFg : Hard F w g := hgH
                exact ((hOc.trans (Only.of_below hWb (fun _ => False)) fun _ z => z.elim).setCell (p := ⟨g, k * 2, none⟩) (.inl hFg) _).setCell (p := ⟨g, k * 2 + 1, none⟩) (.inl hFg) _
              · exact ((k4'.below hWb k4'.lt).far (by show b4 ≠ g; omega) _).far (by show b4 ≠ g; omega) _
            have HNEXT := Lib.hid hnext
            have hf0 := hrow.frozenAt (k * 2)
            have hf1 := hrow.frozenAt (k * 2 + 1)
            rw [Nat.mul_comm 2 k] at qc0 qc1
            clear hnext hnx hdc hd ht hW hrow es2 hAt hl128 k4' k5' k6' hrows hG hsc r1 r2 r3 hl128' hw0 hkc hkl hk0 hgq
            generalize (fateFor l q k).sector = st at *
            generalize (fateFor l q k).keep = kp at *
            generalize (fateFor l q k).torn = tn at *
            have hS : Hid (∀ w', Only (fun b => b = g) wc w' → w'.cell? ⟨gp, q, none⟩ = some (.slice (some ⟨g, 0, none⟩) m cq) ∧ w'.cell? ⟨b4, 0, none⟩ = some (.int .i64 q) ∧ w'.cell? ⟨wr.heap.size, 0, none⟩ = some (.int .i64 k) ∧ w'.cell? ⟨wr.heap.size + 1, 0, none⟩ = some (.int .u8 fl) ∧ w'.cell? ⟨wr.heap.size + 1, 1, none⟩ = some (.int .i64 st) ∧ w'.cell? ⟨wr.heap.size + 1, 2, none⟩ = some (.int .i64 kp) ∧ w'.cell? ⟨wr.heap.size + 1, 3, none⟩ = some (.int .i64 tn)) := fun W hW => ⟨(hW.cell (p := ⟨gp, q, none⟩) hgpl hgpg).trans hgp, (hW.cell (p := ⟨b4, 0, none⟩) h4l n4).trans h4c, (hW.cell (p := ⟨wr.heap.size, 0, none⟩) h5l n5).trans h5c, (hW.cell (p := ⟨wr.heap.size + 1, 0, none⟩) h6l n6).trans h60, (hW.cell (p := ⟨wr.heap.size + 1, 1, none⟩) h6l n6).trans h61, (hW.cell (p := ⟨wr.heap.size + 1, 2, none⟩) h6l n6).trans h62, (hW.cell (p := ⟨wr.heap.size + 1, 3, none⟩) h6l n6).trans h63⟩
            clear hgp h4c h5c h60 h61 h62 h63
            go_wp2_with fail
            go_region_held3 (fun w' => w'.cell? ⟨gp, q, none⟩ = some (.slice (some ⟨g, 0, none⟩) m cq) ∧ w'.cell? ⟨b4, 0, none⟩ = some (.int .i64 q) ∧ w'.cell? ⟨wr.heap.size, 0, none⟩ = some (.int .i64 k) ∧ w'.cell? ⟨wr.heap.size + 1, 0, none⟩ = some (.int .u8 fl) ∧ w'.cell? ⟨wr.heap.size + 1, 1, none⟩ = some (.int .i64 st) ∧ w'.cell? ⟨wr.heap.size + 1, 2, none⟩ = some (.int .i64 kp) ∧ w'.cell? ⟨wr.heap.size + 1, 3, none⟩ = some (.int .i64 tn)) (first | exact hS.out _ (Only.of_below (below_drew0 wc) _) | exact hS.out _ (Only.of_below hb3 _) | exact hS.out _ (((Only.of_below hb3 (fun b => b = g)).setCell (p := ⟨g, k * 2, none⟩) (.inl rfl) _).setCell (p := ⟨g, k * 2 + 1, none⟩) (.inl rfl) _)) (first
              | ((with_reducible refine (hcr _ ?_).mono ?_); (exact below_drew0 wc); rintro e w2 ⟨A2, c2, rfl, ho2, hb2, hs2⟩; have hb3 : Below wc.heap.size wc w2 := (below_drew0 wc).trans hb2; have v0 := (hb3.cell (p := ⟨g, k * 2, none⟩) hgwc).trans qc0; have v1 := (hb3.cell (p := ⟨g, k * 2 + 1, none⟩) hgwc).trans qc1; have y0 := (hb3.frozen (p := ⟨g, k * 2, none⟩) hgwc).trans hf0; have y1 := (hb3.frozen (p := ⟨g, k * 2 + 1, none⟩) hgwc).trans hf1; have HN := Lib.hid (HNEXT.out w2 hb3 A2 c2 ho2 hs2); clear ho2)
              | fail)
            all_goals
              go_wp2
              go_roundw
              case rel => exact ⟨k + 1, by omega, by go_num, HN.out⟩
              case measure => simp [intOf]; omega
        · obtain rfl : k = m := by omega
          have e4 : decide ((k : Int) < (k : Int)) = false := by rw [decide_eq_false_iff_not]; omega
          rw [crashF_next D.f l q k HM.out.symm] at hd
          have HD := Lib.hid (And.intro hd hO)
          clear hd hO hk4 hrows hG
          go_wp2
          go_roundw
          case rel => exact ⟨q + 1, by omega, by go_num, ⟨Xk, HD.out.1⟩, HD.out.2⟩
          case measure => simp [intOf]; omega
    · obtain rfl : q = 2 := by omega
      have hfin : DevPost (D.crash l) F (.pointer (some ⟨gp, 0, none⟩)) w wr := by
        refine ⟨⟨gp, s, .pointer none, Xq, rfl, ⟨⟨fun n hn => ?_, hd.rows, hd.apart⟩, hd.blk, hd.inF, hd.left⟩⟩, hO.mono fun b z => .inl z.1⟩
        have := hd.file n hn
        rw [show (DevP.f ⟨crashF D.f l 2, none, false⟩ n) = (D.crash l).f n from if_pos hn] at this
        exact this
      have HFIN := Lib.hid hfin
      clear hfin hd hO hrows hG
      go_wp2
      go_end0
      exact ⟨rfl, HFIN.out⟩
end
theorem crash_any {D : DevP} {w : World} {F : Nat → Prop} {p : Value} (h : IsDev D w F p) (hF : ∀ b, F b → b < w.heap.size) {N : Nat} (hG : D.good N) (hN : N ≤ 100000) (A : Option Addr) (c : Nat) (l : List FateP) (hl : FatesAt w w.heap.size A l) (hlF : ∀ b o, A = some ⟨b, o, none⟩ → 0 < l.length → ¬ F b) (hln : l.length ≤ 100000) :
    Calls Tryz.prog 19 #[p, .slice A l.length c] w fun e w' => e = .returned (.tuple #[]) ∧ DevPost (D.crash l) F p w w' := by
  obtain ⟨gp, s, lv, X, rfl, h⟩ := h
  exact crash_some h hF hG hN A c l hl hlF hln
end Go.Proofs.YtkganajbilnanaaGreat
