/- The document's Open: what it opens. Conditions: as stated. -/
import Derived.Test.YtkmfacmigonbcaaSealO
namespace Go.Proofs.Ytkmfacmigonbcaa
open Go.ChangeShapes Go.WideShapes Go.ChangeAt Go.RowKit
open NumMath
set_option linter.unusedVariables false
set_option linter.unusedSimpArgs false
set_option maxRecDepth 20000

theorem refgetA (A : Option Addr) (c : Nat) (b : List Nat) (B : Nat) (w : World) (h : Bytes w B A b) (h128 : b.length = 128) :
    Calls Try.prog 24 #[.slice A 128 c] w fun e w' => e = .returned (.int .u64 (markA b : Nat)) ∧ Drew w w' := by
  have := refget_any A c b B w h (by omega)
  rw [h128] at this
  rw [show markA b = getL (b.take 8) from if_pos h128]
  exact this
theorem refgetB (b' o' : Nat) (c : Nat) (b : List Nat) (B : Nat) (w : World) (h : Bytes w B (some ⟨b', o', none⟩) b) (h128 : b.length = 128) :
    Calls Try.prog 24 #[.slice (some ⟨b', o' + 120, none⟩) 8 (c - 120)] w fun e w' => e = .returned (.int .u64 (markB b : Nat)) ∧ Drew w w' := by
  have := refget_any (some ⟨b', o' + 120, none⟩) (c - 120) (b.drop 120) B w (h.drop 120) (by simp; omega)
  rw [show (b.drop 120).length = 8 by simp; omega] at this
  rw [show markB b = getL ((b.drop 120).take 8) from if_pos h128]
  exact this
set_option maxHeartbeats 4000000 in
theorem refopen_any (A : Option Addr) (c : Nat) (L : List Value) (ls : List (List Nat)) (B : Nat) (w : World) (h1 : At w B A L) (hr : Reads w B L ls) (hB : B ≤ w.heap.size) (hl2 : ∀ l ∈ ls, l.length ≤ 200) :
    Calls Try.prog 15 #[.slice A ls.length c] w (OpenRet ls w) := by
  by_cases h4 : ls.length = 4
  · have ht : ((ls.length : Int) != 4) = false := by rw [h4]; rfl
    have h04 : 0 < ls.length := by omega
    obtain ⟨f, hf⟩ : ∃ f, firstS ls = f := ⟨_, rfl⟩
    have HF := Lib.hid hf
    obtain ⟨A0, c0, e0, hc0, b0⟩ := hr.2 0 _ (List.getElem?_eq_getElem h04)
    obtain ⟨b, o, rfl, hbB, q0⟩ := h1 0 (by rw [hr.1]; exact h04)
    rw [← List.getElem?_eq_getElem, e0] at q0
    rw [Nat.add_zero] at q0
    rw [h4]
    by_cases h0 : ls[0].length = 128
    · have hm0 := refgetA A0 c0 ls[0] B w b0 h0
      rw [← firstS_eq h04, hf] at hm0
      rw [h0] at q0 hc0
      clear ht e0 b0 hf
      go_enter Try.func15, Try.ntmps15
      go_wp2_with (go_at_call 24; refine hm0.mono ?_; rintro e w1 ⟨rfl, hd1⟩)
      go_loopw [5, 7, 8] (fun v i _ wr => ∃ (k q c' : Nat) (A' : Option Addr), k ≤ 4 ∧ i = .int .i64 k ∧ v = .slice A' q c' ∧ q ≤ 448 ∧ Hid (q = 112 * k) ∧ RB w wr A' q c' (flS ls k) ∧ Hid (∀ j (hj : j < ls.length), j < k → goodS f ls[j] = true)) (fun _ i _ _ => 4 - (intOf i).toNat)
      case atStart => exact ⟨0, 0, 0, none, by omega, rfl, rfl, by omega, rfl, (RB.start w).drew_ hd1, fun _ _ h => absurd h (by omega)⟩
      case round =>
        obtain ⟨k, q, c', A', hk, rfl, rfl, hq448, HQ, hrb, HG⟩ := hrel
        rcases Nat.lt_or_ge k 4 with hlt | hge
        · have hkl : k < ls.length := by omega
          have hk4 : decide ((k : Int) < 4) = true := by rw [decide_eq_true_iff]; omega
          have hq3 : q ≤ 336 := by have := HQ.out; omega
          have hBw := hrb.2.1
          obtain ⟨A1, c1, e1, hc1, b1⟩ := (hr.below (hBw.mono hB)).2 k _ (List.getElem?_eq_getElem hkl)
          obtain ⟨b2, o2, ee, _, q1⟩ := (h1.below (hBw.mono hB)) k (by rw [hr.1]; exact hkl)
          injection ee with ee
          injection ee with ee1 ee2
          subst ee1
          subst ee2
          rw [← List.getElem?_eq_getElem, e1] at q1
          have hln := hl2 _ (List.getElem_mem hkl)
          have hx := markA_lt b1.2
          have hy := markB_lt b1.2
          have hg : goodS f ls[k] = (decide (ls[k].length = 128) && (decide (markA ls[k] = f) && decide (markB ls[k] = f))) := rfl
          have hbad : goodS f ls[k] = false → openOk ls = false := fun h => open_bad hkl (by rw [HF.out]; exact h)
          have HBAD := Lib.hid hbad
          have HNX := Lib.hid (flS_next hkl)
          clear e1 hbad
          by_cases h128 : ls[k].length = 128
          · rw [decide_eq_true h128, Bool.true_and] at hg
            obtain ⟨bb, oo, rfl, hbb, -, -⟩ := b1.at_ (k := 0) (by omega)
            have cA := refgetA (some ⟨bb, oo, none⟩) c1 ls[k] B wr b1 h128
            have cB : ∀ W, Drew wr W → Calls Try.prog 24 #[.slice (some ⟨bb, oo + 120, none⟩) 8 (c1 - 120)] W fun e w' => e = .returned (.int .u64 (markB ls[k] : Nat)) ∧ Drew W w' := fun W hW => refgetB bb oo c1 ls[k] B W (b1.below (hW.below B)) h128
            obtain ⟨x, hxe⟩ : ∃ x, markA ls[k] = x := ⟨_, rfl⟩
            obtain ⟨y, hye⟩ : ∃ y, markB ls[k] = y := ⟨_, rfl⟩
            rw [hxe] at cA hx hg
            rw [hye] at cB hy hg
            clear hxe hye
            have hcI : (128 : Int) ≤ (c1 : Int) := by omega
            have ht8 : ((128 : Int) != 128) = false := rfl
            rw [h128] at hc1 q1
            by_cases hxf : x = f
            · subst hxf
              rw [decide_eq_true (rfl : x = x), Bool.true_and] at hg
              have hx0 : ((x : Int) != (x : Int)) = false := by simp
              by_cases hyf : y = x
              · subst hyf
                rw [decide_eq_true (rfl : y = y)] at hg
                have hbody : Bytes wr B (some ⟨bb, oo + 8, none⟩) (bodyS ls[k]) := (b1.drop 8).take 112
                have hbl : (bodyS ls[k]).length = 112 := by unfold bodyS; simp; omega
                have hgood : ∀ j (hj : j < ls.length), j < k + 1 → goodS y ls[j] = true := fun j hj hjk => by
                  rcases Nat.lt_or_ge j k with h | h
                  · exact HG.out j hj h
                  · obtain rfl : j = k := by omega
                    exact hg
                have HG2 := Lib.hid hgood
                clear hgood hg b1 h1 hr HG
                obtain ⟨bd, hbd⟩ : ∃ bd, bodyS ls[k] = bd := ⟨_, rfl⟩
                rw [hbd] at hbody hbl
                have HBD := Lib.hid hbd
                clear hbd h128
                go_wp2_with (first
                  | (go_at_call 24; (with_reducible refine cA.mono ?_); rintro e w2 ⟨rfl, m2, rfl⟩; clear cA; have hd2 : Drew wr (wr.drewN m2) := ⟨m2, rfl⟩)
                  | (go_at_call 24; (with_reducible refine (cB _ hd2).mono ?_); rintro e w3 ⟨rfl, m3, rfl⟩; have hd3 : Drew wr (wr.drewN (m2 + m3)) := ⟨m2 + m3, rfl⟩; have hrb2 := hrb.drew_ hd3; have hb2 := hbody.below (Drew.below hd3 B))
                  | (at_builtin; refine wpList_append_rb rfl _ _ 22 22 rfl Try.underlying22 Try.underlying22 hrb2 rfl B (some ⟨bb, oo + 8, none⟩) 112 (c1 - 8) bd rfl hb2 hbl (by omega) ?_; intro A4 c4 w4 r4)
                  | fail)
                go_roundw
                case rel =>
                  refine ⟨k + 1, q + 112, c4, A4, by omega, by go_num, rfl, by omega, (show q + 112 = 112 * (k + 1) by have := HQ.out; omega), ?_, HG2⟩
                  rw [HNX.out, HBD.out]
                  exact r4
                case measure => simp [intOf]; omega
              · have hy0 : ((y : Int) != (x : Int)) = true := by rw [bne_iff_ne]; omega
                rw [decide_eq_false hyf] at hg
                have hob := HBAD.out hg
                have HOB := Lib.hid hob
                clear hg hob b1 h1 hr h128 hyf
                go_wp2_with (first
                  | (go_at_call 24; (with_reducible refine cA.mono ?_); rintro e w2 ⟨rfl, m2, rfl⟩; clear cA; have hd2 : Drew wr (wr.drewN m2) := ⟨m2, rfl⟩)
                  | (go_at_call 24; (with_reducible refine (cB _ hd2).mono ?_); rintro e w3 ⟨rfl, m3, rfl⟩)
                  | fail)
                go_ret3
                exact OpenRet.bad HOB.out (hrb.drew_ (⟨m2 + m3, rfl⟩ : Drew wr (wr.drewN (m2 + m3)))).2.1
            · have hx0 : ((x : Int) != (f : Int)) = true := by rw [bne_iff_ne]; omega
              rw [decide_eq_false hxf, Bool.false_and] at hg
              have hob := HBAD.out hg
              have HOB := Lib.hid hob
              clear hg hob b1 h1 hr h128 hxf
              go_wp2_with (go_at_call 24; refine cA.mono ?_; rintro e w2 ⟨rfl, m2, rfl⟩)
              go_ret3
              exact OpenRet.bad HOB.out (hrb.drew_ ⟨m2, rfl⟩).2.1
          · have ht8 : ((ls[k].length : Int) != 128) = true := by rw [bne_iff_ne]; omega
            rw [decide_eq_false h128, Bool.false_and] at hg
            have hob := HBAD.out hg
            have HOB := Lib.hid hob
            generalize ls[k].length = n1 at *
            clear hg hob b1 h1 hr h128
            go_wp2
            go_ret3
            exact OpenRet.bad HOB.out hrb.2.1
        · obtain rfl : k = 4 := by omega
          have hk4 : decide ((4 : Int) < 4) = false := rfl
          go_wp2
          go_ret3
          exact OpenRet.good (open_good h4 (fun j hj => by rw [HF.out]; exact HG.out j hj (by omega))) HF.out.symm hrb
    · have ht0 : ((ls[0].length : Int) != 128) = true := by rw [bne_iff_ne]; omega
      have ho : openOk ls = false := open_bad h04 (by unfold goodS; rw [decide_eq_false h0, Bool.false_and])
      have HO := Lib.hid ho
      generalize ls[0].length = n0 at *
      clear ho h1 hr e0 b0 h0
      go_enter Try.func15, Try.ntmps15
      go_wp2
      go_ret3
      exact OpenRet.bad HO.out (Below.refl _ _)
  · have ht : ((ls.length : Int) != 4) = true := by rw [bne_iff_ne]; omega
    have ho : openOk ls = false := by unfold openOk; rw [decide_eq_false h4, Bool.false_and]
    have HO := Lib.hid ho
    clear ho h1 hr
    go_enter Try.func15, Try.ntmps15
    go_wp2
    go_ret3
    exact OpenRet.bad HO.out (Below.refl _ _)
end Go.Proofs.Ytkmfacmigonbcaa
