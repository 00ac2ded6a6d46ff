/- disk: crash of a sector. Conditions: the sector lies there. -/
import Derived.Test.YtnbbneldbagohaaDiskSync
import Derived.Test.YtnbbneldbagohaaCopy
import Derived.Deep.QuietTactic
import Derived.BigQuiet
import Derived.Deep.DeepCutAuto
import Derived.StillTailTactics
namespace Go.Proofs.Ytnbbneldbagohaa
open Go.ChangeShapes Go.WideShapes Go.ChangeAt Go.RowKit
set_option linter.unusedVariables false
set_option linter.unusedSimpArgs false
set_option maxRecDepth 20000

set_option maxHeartbeats 400000 in
theorem crashS_any (g o : Nat) (lw wv : Value) (sc : Sect) (w : World) (F : Nat → Prop) (q0 : w.cell? ⟨g, o, none⟩ = some lw) (q1 : w.cell? ⟨g, o + 1, none⟩ = some wv) (hgw : g < w.heap.size) (ht : Txt w F lw sc.last) (hW : IsWaits w F wv sc.waits)
    (h1 : sc.last.length = 128) (h2 : ∀ l ∈ sc.waits, l.length = 128) (h3 : sc.waits.length ≤ 100000) (fl : Int) (st kp tn : Int) :
    Calls Try.prog 37 #[.pointer (some ⟨g, o, none⟩), .agg #[.int .u8 fl, .int .i64 st, .int .i64 kp, .int .i64 tn]] w fun e w' => ∃ A c, e = .returned (.agg #[.slice A 128 c, .slice none 0 0]) ∧ w'.ownsRow w.heap.size 5 1 (.slice A 128 c) 128 ((sc.crash ⟨0, st, kp, tn⟩).last.map byteV) ∧ Below w.heap.size w w' ∧ Small (sc.crash ⟨0, st, kp, tn⟩).last := by
  obtain ⟨L, how, hFw, hTw⟩ := hW
  obtain ⟨A5, c5, rfl, -, -⟩ := own_form how
  obtain ⟨m, hm⟩ : ∃ m, sc.waits.length = m := ⟨_, rfl⟩
  rw [hm] at how q1 h3
  have hK : keepN sc ⟨0, st, kp, tn⟩ = min (max kp 0).toNat m := by unfold keepN; rw [hm]
  obtain ⟨K, hKe⟩ : ∃ K, keepN sc ⟨0, st, kp, tn⟩ = K := ⟨_, rfl⟩
  rw [hKe] at hK
  have HK := Lib.hid hK
  have HKE := Lib.hid hKe
  clear hKe
  have hKm : K ≤ m := by omega
  clear hK
  have k1 := ((Blk.new w 24 #[.int .u8 fl, .int .i64 st, .int .i64 kp, .int .i64 tn]).alloc (.cells #[.slice none 0 0, .slice none 0 0] 70))
  have k2 := Blk.new (w.alloc (.cells #[.int .u8 fl, .int .i64 st, .int .i64 kp, .int .i64 tn] 24)) 70 #[.slice none 0 0, .slice none 0 0]
  rw [World.size_alloc] at k2
  have hb0 : Below w.heap.size w ((w.alloc (.cells #[.int .u8 fl, .int .i64 st, .int .i64 kp, .int .i64 tn] 24)).alloc (.cells #[.slice none 0 0, .slice none 0 0] 70)) := ((Below.refl _ _).alloc (Nat.le_refl _) _).alloc (by simp) _
  go_enter Try.func37, Try.ntmps37
  go_upto_region 1 with fail
  generalize World.alloc (World.alloc w _) _ = W0 at *
  have c2 : W0.cell? ⟨w.heap.size, 2, none⟩ = some (.int .i64 kp) := k1.cell 2
  have c3 : W0.cell? ⟨w.heap.size, 3, none⟩ = some (.int .i64 tn) := k1.cell 3
  have p0 := (hb0.cell (p := ⟨g, o, none⟩) hgw).trans q0
  have p1 := (hb0.cell (p := ⟨g, o + 1, none⟩) hgw).trans q1
  have ht0 := ht.only (Only.of_below hb0 (fun _ => False)) fun _ _ _ q => q
  have hT0 := fun j u l q q' => (hTw j u l q q').only (Only.of_below hb0 (fun _ => False)) fun _ _ _ q => q
  have how0 := kept_below hb0 how
  clear q0 q1 ht hTw how
  go_cut [5] (fun s5 wx => s5 = .int .i64 (K : Nat) ∧ Drew W0 wx)
  case first =>
    rcases (show kp < 0 ∨ (0 ≤ kp ∧ kp ≤ (m : Int)) ∨ (m : Int) < kp from by omega) with z | ⟨z1, z2⟩ | z
    · have hK := HK.out
      obtain rfl : K = 0 := by omega
      clear hK
      go_quiet (fail)
      go_wp2
      go_meet
      case rel => exact ⟨by go_num, ⟨_, rfl⟩⟩
    · obtain ⟨q, rfl⟩ := Int.eq_ofNat_of_zero_le z1
      have hK := HK.out
      obtain rfl : K = q := by omega
      clear hK
      go_quiet (fail)
      go_wp2
      go_meet
      case rel => exact ⟨by go_num, ⟨_, rfl⟩⟩
    · have hK := HK.out
      obtain rfl : K = m := by omega
      clear hK
      have z1 : (0 : Int) ≤ kp := by omega
      go_quiet (fail)
      go_wp2
      go_meet
      case rel => exact ⟨by go_num, ⟨_, rfl⟩⟩
  case rest =>
    obtain ⟨rfl, hdw⟩ := hcut
    have c2' : wc.cell? ⟨w.heap.size, 2, none⟩ = some (.int .i64 kp) := by obtain ⟨q, rfl⟩ := hdw; exact c2
    have c3' : wc.cell? ⟨w.heap.size, 3, none⟩ = some (.int .i64 tn) := by obtain ⟨q, rfl⟩ := hdw; exact c3
    have k2' : Blk wc (w.heap.size + 1) 70 #[.slice none 0 0, .slice none 0 0] := by obtain ⟨q, rfl⟩ := hdw; exact k2
    have p0' : wc.cell? ⟨g, o, none⟩ = some lw := by obtain ⟨q, rfl⟩ := hdw; exact p0
    have p1' : wc.cell? ⟨g, o + 1, none⟩ = some (.slice A5 m c5) := by obtain ⟨q, rfl⟩ := hdw; exact p1
    have ht' : Txt wc F lw sc.last := ht0.only (Only.of_below (hdw.below W0.heap.size) (fun _ => False)) fun _ _ _ q => q
    have hT' := fun j u l q q' => (hT0 j u l q q').only (Only.of_below (hdw.below W0.heap.size) (fun _ => False)) fun _ _ _ q => q
    have how' := hdw.own how0
    have hb1 : Below w.heap.size w wc := hb0.trans (hdw.below _)
    clear c2 c3 k1 k2 p0 p1 ht0 hT0 how0 hb0 hdw
    clear W0
    obtain ⟨W1, rfl⟩ : ∃ W1 : World, W1 = wc := ⟨_, rfl⟩
    go_upto_if 21 with (fail)
    go_cut [6] (fun s6 wx => W1 = wx ∧ Txt wx F s6 (keptL sc K))
    case first =>
      rcases Nat.eq_zero_or_pos K with hz | hz
      · subst hz
        have hk0 : keptL sc 0 = sc.last := if_pos rfl
        rw [← hk0] at ht'
        clear hk0
        have HT := Lib.hid ht'
        clear ht'
        obtain ⟨A6, c6, e6, -⟩ := HT.out.bytes
        subst e6
        go_wp2
        go_meet
        case rel => exact ⟨rfl, HT.out⟩
      · obtain ⟨b2, rfl, hb2, hb2'⟩ := own_pos how' (by omega)
        have hLl : L.length = m := by have := how'.1; omega
        have hu : L[K - 1]? = some (L[K - 1]'(by omega)) := List.getElem?_eq_getElem (by omega)
        have hl : sc.waits[K - 1]? = some (sc.waits[K - 1]'(by omega)) := List.getElem?_eq_getElem (by omega)
        have hx := hT' (K - 1) _ _ hu hl
        have hk0 : keptL sc K = sc.waits[K - 1]'(by omega) := by unfold keptL; rw [if_neg (by omega), hl]; rfl
        rw [← hk0] at hx
        have qc : W1.cell? ⟨b2, K - 1, none⟩ = some (L[K - 1]'(by omega)) := (how'.cellAt (K - 1) (by omega)).trans hu
        generalize L[K - 1]'(by omega) = u at *
        obtain ⟨q, rfl⟩ : ∃ q, K = q + 1 := ⟨K - 1, by omega⟩
        rw [Nat.add_sub_cancel] at qc
        have e1 : decide ((0 : Int) < ((q + 1 : Nat) : Int)) = true := by rw [decide_eq_true_iff]; omega
        have e2 : (((q + 1 : Nat) : Int)) - 1 = (q : Int) := by omega
        have e3 : (0 : Int) ≤ (q : Int) := by omega
        have e4 : (q : Int) < (m : Int) := by omega
        obtain ⟨A6, c6, e6, -⟩ := hx.bytes
        have HX := Lib.hid hx
        clear hx hu hl hk0 hT' ht'
        subst e6
        go_wp2
        go_meet
        case rel => exact ⟨rfl, HX.out⟩
    case rest =>
      obtain ⟨rfl, htx⟩ := hcut
      have hl128 := keptL_128 h1 h2 (k := K) (by omega)
      have hcr : (sc.crash ⟨0, st, kp, tn⟩).last = if K < m then (sc.waits[K]?.getD []).take (min (max tn 0).toNat 128) ++ (keptL sc K).drop (min (max tn 0).toNat 128) else keptL sc K := by
        unfold Sect.crash
        dsimp only
        rw [HKE.out, hm]
      have HCR := Lib.hid hcr
      clear hcr
      generalize hkl : keptL sc K = kl at *
      obtain ⟨A6, c6, rfl, hc6, hb6⟩ := htx.bytes
      have hcl := clone_any A6 c6 kl _ W1 hb6 (Nat.le_refl _) (by omega)
      rw [hl128] at hcl ⊢
      have fin : ∀ (w5 : World) (A : Option Addr) (c : Nat) (xs : List Nat), (sc.crash ⟨0, st, kp, tn⟩).last = xs → w5.ownsRow W1.heap.size 5 1 (.slice A 128 c) 128 (xs.map byteV) → Below W1.heap.size W1 w5 → Small xs → ∀ u v,
          ∃ A' c', Ending.returned (.agg #[.slice A 128 c, .slice none 0 0]) = .returned (.agg #[.slice A' 128 c', .slice none 0 0]) ∧ ((w5.setCell ⟨w.heap.size + 1, 0, none⟩ u).setCell ⟨w.heap.size + 1, 1, none⟩ v).ownsRow w.heap.size 5 1 (.slice A' 128 c') 128 ((sc.crash ⟨0, st, kp, tn⟩).last.map byteV) ∧ Below w.heap.size w ((w5.setCell ⟨w.heap.size + 1, 0, none⟩ u).setCell ⟨w.heap.size + 1, 1, none⟩ v) ∧ Small (sc.crash ⟨0, st, kp, tn⟩).last := fun w5 A c xs e ho hb hs u v => by
        have hlt := k2'.lt
        rw [e]
        refine ⟨A, c, rfl, ?_, (((hb1.trans (hb.mono hb1.size)).setCell (by simp) _).setCell (by simp) _), hs⟩
        have h0 : Only (fun b => b = w.heap.size + 1) w5 ((w5.setCell ⟨w.heap.size + 1, 0, none⟩ u).setCell ⟨w.heap.size + 1, 1, none⟩ v) := ((Only.refl (fun b => b = w.heap.size + 1) w5).setCell (p := ⟨w.heap.size + 1, 0, none⟩) (.inl rfl) _).setCell (p := ⟨w.heap.size + 1, 1, none⟩) (.inl rfl) _
        exact own_base hb1.size (h0.own ho fun k hk hk' => by subst hk'; have := (ho.lt _ hk).1; omega)
      have FIN := Lib.hid fin
      clear fin
      rcases Nat.lt_or_ge K m with hlt | hge
      · obtain ⟨b2, rfl, hb2, hb2'⟩ := own_pos how' (by omega)
        have hLl : L.length = m := by have := how'.1; omega
        have hu : L[K]? = some (L[K]'(by omega)) := List.getElem?_eq_getElem (by omega)
        have hl : sc.waits[K]? = some (sc.waits[K]'(by omega)) := List.getElem?_eq_getElem (by omega)
        have hx := hT' K _ _ hu hl
        have hw128 : (sc.waits[K]'(by omega)).length = 128 := h2 _ (List.getElem_mem _)
        have qc : W1.cell? ⟨b2, K, none⟩ = some (L[K]'(by omega)) := (how'.cellAt K (by omega)).trans hu
        have HCR2 := HCR.out
        rw [if_pos hlt, hl, Option.getD_some] at HCR2
        clear HCR
        have HCR := Lib.hid HCR2
        clear HCR2
        generalize L[K]'(by omega) = u at *
        generalize sc.waits[K]'(by omega) = wl at *
        obtain ⟨A7, c7, rfl, hc7, hb7⟩ := hx.bytes
        rw [hw128] at qc
        have e1 : decide ((K : Int) < (m : Int)) = true := by rw [decide_eq_true_iff]; omega
        have e3 : (0 : Int) ≤ (K : Int) := by omega
        have e4 : (K : Int) < (m : Int) := by omega
        have husz : (Try.prog.info? 5).map (·.size) = some 1 := by kernel_rfl
        clear hu hl hx hT' ht' how'
        go_wp2_with fail
        refine hcl.mono ?_
        rintro e w2 ⟨A2, c2, rfl, ho2, hb2w, hs2⟩
        rw [hl128] at ho2 ⊢
        obtain ⟨g2, rfl, hg2, hg2'⟩ := own_pos ho2 (by omega)
        have hc2 := own_cap ho2
        have hc2I : (128 : Int) ≤ (c2 : Int) := by omega
        have d2 := (hb2w.cell (p := ⟨w.heap.size, 3, none⟩) (by have := k2'.lt; show w.heap.size < _; omega)).trans c3'
        have d1 := (hb2w.cell (p := ⟨g, o + 1, none⟩) (by have := hb1.size; show g < _; omega)).trans p1'
        have dc := (hb2w.cell (p := ⟨b2, K, none⟩) hb2').trans qc
        have hb7' := hb7.below hb2w
        have ho2' : w2.drew.ownsRow W1.heap.size 5 1 (.slice (some ⟨g2, 0, none⟩) 128 c2) 128 (kl.map byteV) := ho2
        have hb7'' : Bytes w2.drew W1.heap.size A7 wl := hb7'.below ((Below.refl _ _).drew)
        have HO2 := Lib.hid ho2'
        have HB7 := Lib.hid hb7''
        have hb7s := hb7'.2
        clear ho2 hb7' ho2' hb7''
        have hk2w : Blk w2.drew (w.heap.size + 1) 70 #[.slice none 0 0, .slice none 0 0] := (k2'.below hb2w k2'.lt).drew
        have hk2lt := k2'.lt
        clear c2' c3' p0' p1' qc hb7 hcl k2'
        rcases (show tn < 0 ∨ (0 ≤ tn ∧ tn ≤ 128) ∨ 128 < tn from by omega) with z | ⟨z1, z2⟩ | z
        · have z1 : ¬ (0 : Int) ≤ tn := by omega
          go_wp2_with fail
          go_still_tail 15, (by kernel_rfl)
          change wpList _ _ _ _ _ w2.drew
          refine wpList_copy_at rfl (.tmp 46) (.tmp 53) 28 28 rfl 5 Try.underlying28 husz W1.heap.size g2 0 (0) c2 128 c2 (kl.map byteV) rfl HO2.out (by omega) W1.heap.size A7 128 c7 (wl.map byteV) rfl (by rw [List.length_map]; exact hw128) HB7.out.1 (bytes_oneCell _) ?_
          intro w5 ho5 hg5
          have hk5 := hk2w.grown hg5 (by intro e; injection e with e; omega)
          have f50 := hk5.frozen 0
          have f51 := hk5.frozen 1
          have c50 := hk5.cell 0
          have c51 := hk5.cell 1
          have hmn : min (max tn 0).toNat 128 = 0 := by omega
          have e5 := HCR.out
          rw [hmn] at e5
          rw [Nat.zero_add, List.take_zero, List.nil_append, ← List.map_take, ← List.map_drop, ← List.map_append, Nat.min_eq_right (show 0 ≤ 128 by omega)] at ho5
          have hb5 : Below W1.heap.size W1 w5 := (hb2w.trans ((below_drew0 w2).mono hb2w.size)).grown hg5 hb2w.size (fun k hk => by injection hk with hk; omega)
          have hsm : Small (wl.take (0) ++ kl.drop (0)) := small_append (fun x hx => hb7s x (List.mem_of_mem_take hx)) (fun x hx => hs2 x (List.mem_of_mem_drop hx))
          have F5 := Lib.hid (FIN.out w5 _ _ _ e5 ho5 hb5 hsm)
          clear e5 ho5 hb5 hg5 hmn
          go_wp2
          refine bodyPost_ret (v := .agg #[.slice (some ⟨g2, 0, none⟩) 128 c2, .slice none 0 0]) ?_ rfl (F5.out _ _)
          simp [results, Try.results37, go_sem, c50, c51]
        · obtain ⟨q, rfl⟩ := Int.eq_ofNat_of_zero_le z1
          have z3 : ((128 : Int) < (q : Int)) = False := eq_false (by omega)
          have z4 : (q : Int) ≤ (c2 : Int) := by omega
          have z5 : ((q : Int) < 0) = False := eq_false (by omega)
          go_wp2_with fail
          go_still_tail 15, (by kernel_rfl)
          change wpList _ _ _ _ _ w2.drew
          refine wpList_copy_at rfl (.tmp 46) (.tmp 53) 28 28 rfl 5 Try.underlying28 husz W1.heap.size g2 0 (q) c2 128 c2 (kl.map byteV) rfl HO2.out (by omega) W1.heap.size A7 128 c7 (wl.map byteV) rfl (by rw [List.length_map]; exact hw128) HB7.out.1 (bytes_oneCell _) ?_
          intro w5 ho5 hg5
          have hk5 := hk2w.grown hg5 (by intro e; injection e with e; omega)
          have f50 := hk5.frozen 0
          have f51 := hk5.frozen 1
          have c50 := hk5.cell 0
          have c51 := hk5.cell 1
          have hmn : min (max (q : Int) 0).toNat 128 = q := by omega
          have e5 := HCR.out
          rw [hmn] at e5
          rw [Nat.zero_add, List.take_zero, List.nil_append, ← List.map_take, ← List.map_drop, ← List.map_append, Nat.min_eq_right (show q ≤ 128 by omega)] at ho5
          have hb5 : Below W1.heap.size W1 w5 := (hb2w.trans ((below_drew0 w2).mono hb2w.size)).grown hg5 hb2w.size (fun k hk => by injection hk with hk; omega)
          have hsm : Small (wl.take (q) ++ kl.drop (q)) := small_append (fun x hx => hb7s x (List.mem_of_mem_take hx)) (fun x hx => hs2 x (List.mem_of_mem_drop hx))
          have F5 := Lib.hid (FIN.out w5 _ _ _ e5 ho5 hb5 hsm)
          clear e5 ho5 hb5 hg5 hmn
          go_wp2
          refine bodyPost_ret (v := .agg #[.slice (some ⟨g2, 0, none⟩) 128 c2, .slice none 0 0]) ?_ rfl (F5.out _ _)
          simp [results, Try.results37, go_sem, c50, c51]
        · have z1 : (0 : Int) ≤ tn := by omega
          have z5 : (tn < 0) = False := eq_false (by omega)
          go_wp2_with fail
          go_still_tail 15, (by kernel_rfl)
          change wpList _ _ _ _ _ w2.drew
          refine wpList_copy_at rfl (.tmp 46) (.tmp 53) 28 28 rfl 5 Try.underlying28 husz W1.heap.size g2 0 (128) c2 128 c2 (kl.map byteV) rfl HO2.out (by omega) W1.heap.size A7 128 c7 (wl.map byteV) rfl (by rw [List.length_map]; exact hw128) HB7.out.1 (bytes_oneCell _) ?_
          intro w5 ho5 hg5
          have hk5 := hk2w.grown hg5 (by intro e; injection e with e; omega)
          have f50 := hk5.frozen 0
          have f51 := hk5.frozen 1
          have c50 := hk5.cell 0
          have c51 := hk5.cell 1
          have hmn : min (max tn 0).toNat 128 = 128 := by omega
          have e5 := HCR.out
          rw [hmn] at e5
          rw [Nat.zero_add, List.take_zero, List.nil_append, ← List.map_take, ← List.map_drop, ← List.map_append, Nat.min_eq_right (show 128 ≤ 128 by omega)] at ho5
          have hb5 : Below W1.heap.size W1 w5 := (hb2w.trans ((below_drew0 w2).mono hb2w.size)).grown hg5 hb2w.size (fun k hk => by injection hk with hk; omega)
          have hsm : Small (wl.take (128) ++ kl.drop (128)) := small_append (fun x hx => hb7s x (List.mem_of_mem_take hx)) (fun x hx => hs2 x (List.mem_of_mem_drop hx))
          have F5 := Lib.hid (FIN.out w5 _ _ _ e5 ho5 hb5 hsm)
          clear e5 ho5 hb5 hg5 hmn
          go_wp2
          refine bodyPost_ret (v := .agg #[.slice (some ⟨g2, 0, none⟩) 128 c2, .slice none 0 0]) ?_ rfl (F5.out _ _)
          simp [results, Try.results37, go_sem, c50, c51]
      · have e1 : decide ((K : Int) < (m : Int)) = false := by rw [decide_eq_false_iff_not]; omega
        have e5 := HCR.out
        rw [if_neg (by omega)] at e5
        have hk2lt := k2'.lt
        clear hT' ht' how' c2' c3' p0'
        go_wp2_with fail
        refine hcl.mono ?_
        rintro e w2 ⟨A2, c2, rfl, ho2, hb2w, hs2⟩
        rw [hl128] at ho2 ⊢
        have d1 := (hb2w.cell (p := ⟨g, o + 1, none⟩) (by have := hb1.size; show g < _; omega)).trans p1'
        have hk5 := k2'.below hb2w k2'.lt
        have f50 := hk5.frozen 0
        have f51 := hk5.frozen 1
        have c50 := hk5.cell 0
        have c51 := hk5.cell 1
        have F5 := Lib.hid (FIN.out w2 _ _ _ e5 ho2 hb2w hs2)
        clear e5 ho2 hcl
        go_wp2
        refine bodyPost_ret (v := .agg #[.slice A2 128 c2, .slice none 0 0]) ?_ rfl (F5.out _ _)
        simp [results, Try.results37, go_sem, c50, c51]
end Go.Proofs.Ytnbbneldbagohaa
