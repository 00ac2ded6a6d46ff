/- seal.Open: what it opens. Conditions: as stated. -/
import Derived.Test.YtkmfacmigonbcaaSealM
import Derived.Test.YtkmfacmigonbcaaRB
namespace Go.Proofs.Ytkmfacmigonbcaa
open Go.ChangeShapes Go.WideShapes Go.ChangeAt Go.RowKit
open NumMath
set_option linter.unusedVariables false
set_option linter.unusedSimpArgs false
set_option maxRecDepth 20000

def goodS (f : Nat) (b : List Nat) : Bool := decide (b.length = 128) && (decide (markA b = f) && decide (markB b = f))
def bodyS (b : List Nat) : List Nat := (b.drop 8).take 112
def flS (ls : List (List Nat)) (k : Nat) : List Nat := ((ls.take k).map bodyS).flatten
def firstS (ls : List (List Nat)) : Nat := markA (ls.headD [])
def openOk (ls : List (List Nat)) : Bool := decide (ls.length = 4) && ls.all (goodS (firstS ls))
def openB (ls : List (List Nat)) : List Nat := if openOk ls = true then flS ls 4 else []
def openN (ls : List (List Nat)) : Nat := if openOk ls = true then firstS ls else 0
theorem flS_next {ls : List (List Nat)} {k : Nat} (h : k < ls.length) : flS ls (k + 1) = flS ls k ++ bodyS ls[k] := by
  unfold flS
  rw [List.take_succ_eq_append_getElem h, List.map_append, List.flatten_append]
  simp
theorem firstS_eq {ls : List (List Nat)} (h : 0 < ls.length) : firstS ls = markA ls[0] := by
  cases ls with
  | nil => cases h
  | cons a l => rfl
theorem open_bad {ls : List (List Nat)} {k : Nat} (hk : k < ls.length) (h : goodS (firstS ls) ls[k] = false) : openOk ls = false := by
  unfold openOk
  rw [Bool.and_eq_false_iff]
  right
  rw [Bool.eq_false_iff]
  intro e
  rw [List.all_eq_true] at e
  have := e _ (List.getElem_mem hk)
  rw [h] at this
  cases this
theorem open_good {ls : List (List Nat)} (h4 : ls.length = 4) (h : ∀ j (hj : j < ls.length), goodS (firstS ls) ls[j] = true) : openOk ls = true := by
  unfold openOk
  rw [decide_eq_true h4, Bool.true_and, List.all_eq_true]
  intro l hl
  obtain ⟨j, hj, rfl⟩ := List.mem_iff_getElem.1 hl
  exact h j hj
def OpenRet (ls : List (List Nat)) (w : World) (e : Ending) (w' : World) : Prop :=
  ∃ A c, e = .returned (.tuple #[.slice A (openB ls).length c, .int .u64 (openN ls : Nat), .bool (openOk ls)]) ∧ RB w w' A (openB ls).length c (openB ls)
theorem OpenRet.bad {ls : List (List Nat)} {w w' : World} (h : openOk ls = false) (hb : Below w.heap.size w w') : OpenRet ls w (.returned (.tuple #[.slice none 0 0, .int .u64 0, .bool false])) w' := by
  have hB : openB ls = [] := by unfold openB; rw [if_neg (by rw [h]; exact Bool.false_ne_true)]
  have hN : openN ls = 0 := by unfold openN; rw [if_neg (by rw [h]; exact Bool.false_ne_true)]
  unfold OpenRet
  rw [hB, hN, h]
  exact ⟨none, 0, rfl, ⟨World.ownsRow_nil _ _ _ _, hb, (fun x hx => by cases hx), rfl⟩⟩
theorem OpenRet.good {ls : List (List Nat)} {w w' : World} {A : Option Addr} {q c f : Nat} (h : openOk ls = true) (hf : f = firstS ls) (hr : RB w w' A q c (flS ls 4)) : OpenRet ls w (.returned (.tuple #[.slice A q c, .int .u64 (f : Nat), .bool true])) w' := by
  have hB : openB ls = flS ls 4 := by unfold openB; rw [if_pos h]
  have hN : openN ls = f := by unfold openN; rw [if_pos h, hf]
  unfold OpenRet
  have e := hr.2.2.2
  subst e
  rw [hB, hN, h]
  exact ⟨A, c, rfl, hr⟩
theorem RB.drew_ {w0 w w' : World} {A : Option Addr} {n c : Nat} {l : List Nat} (h : RB w0 w A n c l) (hd : Drew w w') : RB w0 w' A n c l := h.keep (hd.below _)
set_option maxHeartbeats 4000000 in
theorem open_any (A : Option Addr) (c : Nat) (L : List Value) (ls : List (List Nat)) (B : Nat) (w : World) (h1 : At w B A L) (hr : Reads w B L ls) (hB : B ≤ w.heap.size) (hl2 : ∀ l ∈ ls, l.length ≤ 200) :
    Calls Try.prog 14 #[.slice A ls.length c] w (OpenRet ls w) := by
  by_cases h4 : ls.length = 4
  · have ht : ((ls.length : Int) != 4) = false := by rw [h4]; rfl
    have h04 : 0 < ls.length := by omega
    obtain ⟨f, hf⟩ : ∃ f, firstS ls = f := ⟨_, rfl⟩
    have HF := Lib.hid hf
    obtain ⟨A0, c0, e0, hc0, b0⟩ := hr.2 0 _ (List.getElem?_eq_getElem h04)
    obtain ⟨b, o, rfl, hbB, q0⟩ := h1 0 (by rw [hr.1]; exact h04)
    rw [← List.getElem?_eq_getElem, e0] at q0
    have hm0 := marks_any A0 c0 ls[0] B w b0 hc0 (by have := hl2 _ (List.getElem_mem h04); omega)
    rw [← firstS_eq h04, hf] at hm0
    generalize ls[0].length = n0 at *
    generalize markB ls[0] = y0 at *
    generalize markOk ls[0] = ok0 at *
    rw [Nat.add_zero] at q0
    rw [h4]
    clear ht e0 b0 hf
    go_enter Try.func14, Try.ntmps14
    go_wp2_with (go_at_call 23; refine hm0.mono ?_; rintro e w1 ⟨rfl, hd1⟩)
    go_loopw [8, 27] (fun v i wr => ∃ (k q c' : Nat) (A' : Option Addr), k ≤ 4 ∧ i = .int .i64 k ∧ v = .slice A' q c' ∧ q ≤ 448 ∧ Hid (q = 112 * k) ∧ RB w wr A' q c' (flS ls k) ∧ Hid (∀ j (hj : j < ls.length), j < k → goodS f ls[j] = true)) (fun _ i _ => 4 - (intOf i).toNat)
    case atStart => exact ⟨0, 0, 0, none, by omega, rfl, rfl, by omega, rfl, (RB.start w).drew_ hd1, fun _ _ h => absurd h (by omega)⟩
    case round =>
      obtain ⟨k, q, c', A', hk, rfl, rfl, hq448, HQ, hrb, HG⟩ := hrel
      rcases Nat.lt_or_ge k 4 with hlt | hge
      · have hkl : k < ls.length := by omega
        have hk4 : decide ((k : Int) < 4) = true := by rw [decide_eq_true_iff]; omega
        have hq3 : q ≤ 336 := by have := HQ.out; omega
        have hBw := hrb.2.1
        obtain ⟨A1, c1, e1, hc1, b1⟩ := (hr.below (hBw.mono hB)).2 k _ (List.getElem?_eq_getElem hkl)
        obtain ⟨b2, o2, ee, _, q1⟩ := (h1.below (hBw.mono hB)) k (by rw [hr.1]; exact hkl)
        injection ee with ee
        injection ee with ee1 ee2
        subst ee1
        subst ee2
        rw [← List.getElem?_eq_getElem, e1] at q1
        have hln := hl2 _ (List.getElem_mem hkl)
        have hm1 := marks_any A1 c1 ls[k] B _ b1 hc1 (by omega)
        have hx := markA_lt b1.2
        have hy := markB_lt b1.2
        have hg : goodS f ls[k] = (decide (ls[k].length = 128) && (decide (markA ls[k] = f) && decide (markB ls[k] = f))) := rfl
        have hbad : goodS f ls[k] = false → openOk ls = false := fun h => open_bad hkl (by rw [HF.out]; exact h)
        have HBAD := Lib.hid hbad
        have HNX := Lib.hid (flS_next hkl)
        clear e1 hbad
        by_cases h128 : ls[k].length = 128
        · have hok : markOk ls[k] = true := decide_eq_true h128
          rw [hok] at hm1
          rw [decide_eq_true h128, Bool.true_and] at hg
          obtain ⟨x, hxe⟩ : ∃ x, markA ls[k] = x := ⟨_, rfl⟩
          obtain ⟨y, hye⟩ : ∃ y, markB ls[k] = y := ⟨_, rfl⟩
          rw [hxe] at hm1 hx hg
          rw [hye] at hm1 hy hg
          clear hxe hye hok
          rw [h128] at hm1 hc1 q1
          by_cases hxf : x = f
          · subst hxf
            rw [decide_eq_true (rfl : x = x), Bool.true_and] at hg
            have hx0 : ((x : Int) != (x : Int)) = false := by simp
            by_cases hyf : y = x
            · subst hyf
              rw [decide_eq_true (rfl : y = y)] at hg
              obtain ⟨bb, oo, rfl, hbb, -, -⟩ := b1.at_ (k := 0) (by omega)
              have hbody : Bytes wr B (some ⟨bb, oo + 8, none⟩) (bodyS ls[k]) := (b1.drop 8).take 112
              have hbl : (bodyS ls[k]).length = 112 := by unfold bodyS; simp; omega
              have hgood : ∀ j (hj : j < ls.length), j < k + 1 → goodS y ls[j] = true := fun j hj hjk => by
                rcases Nat.lt_or_ge j k with h | h
                · exact HG.out j hj h
                · obtain rfl : j = k := by omega
                  exact hg
              have HG2 := Lib.hid hgood
              have hcI : (128 : Int) ≤ (c1 : Int) := by omega
              clear hgood hg b1 h1 hr HG
              obtain ⟨bd, hbd⟩ : ∃ bd, bodyS ls[k] = bd := ⟨_, rfl⟩
              rw [hbd] at hbody hbl
              have HBD := Lib.hid hbd
              clear hbd h128
              go_wp2_with (first
                | (go_at_call 23; refine hm1.mono ?_; rintro e w2 ⟨rfl, m2, rfl⟩; have hrb2 := hrb.drew_ ⟨m2, rfl⟩; have hb2 := hbody.below (Drew.below ⟨m2, rfl⟩ B))
                | (at_builtin; refine wpList_append_rb rfl _ _ 22 22 rfl Try.underlying22 Try.underlying22 hrb2 rfl B (some ⟨bb, oo + 8, none⟩) 112 (c1 - 8) bd rfl hb2 hbl (by omega) ?_; intro A4 c4 w4 r4)
                | fail)
              go_roundw
              case rel =>
                refine ⟨k + 1, q + 112, c4, A4, by omega, by go_num, rfl, by omega, (show q + 112 = 112 * (k + 1) by have := HQ.out; omega), ?_, HG2⟩
                rw [HNX.out, HBD.out]
                exact r4
              case measure => simp [intOf]; omega
            · have hy0 : ((y : Int) != (x : Int)) = true := by rw [bne_iff_ne]; omega
              rw [decide_eq_false hyf] at hg
              have hob := HBAD.out hg
              have HOB := Lib.hid hob
              clear hg hob b1 h1 hr h128 hyf
              go_wp2_with (go_at_call 23; refine hm1.mono ?_; rintro e w2 ⟨rfl, m2, rfl⟩)
              go_ret3
              exact OpenRet.bad HOB.out (hrb.drew_ ⟨m2, rfl⟩).2.1
          · have hx0 : ((x : Int) != (f : Int)) = true := by rw [bne_iff_ne]; omega
            rw [decide_eq_false hxf, Bool.false_and] at hg
            have hob := HBAD.out hg
            have HOB := Lib.hid hob
            clear hg hob b1 h1 hr h128 hxf
            go_wp2_with (go_at_call 23; refine hm1.mono ?_; rintro e w2 ⟨rfl, m2, rfl⟩)
            go_ret3
            exact OpenRet.bad HOB.out (hrb.drew_ ⟨m2, rfl⟩).2.1
        · have hok : markOk ls[k] = false := decide_eq_false h128
          rw [hok] at hm1
          rw [decide_eq_false h128, Bool.false_and] at hg
          have hob := HBAD.out hg
          have HOB := Lib.hid hob
          generalize ls[k].length = n1 at *
          generalize markA ls[k] = x at *
          generalize markB ls[k] = y at *
          clear hok hg hob b1 h1 hr h128
          go_wp2_with (go_at_call 23; refine hm1.mono ?_; rintro e w2 ⟨rfl, m2, rfl⟩)
          go_ret3
          exact OpenRet.bad HOB.out (hrb.drew_ ⟨m2, rfl⟩).2.1
      · obtain rfl : k = 4 := by omega
        have hk4 : decide ((4 : Int) < 4) = false := rfl
        go_wp2
        go_ret3
        exact OpenRet.good (open_good h4 (fun j hj => by rw [HF.out]; exact HG.out j hj (by omega))) HF.out.symm hrb
  · have ht : ((ls.length : Int) != 4) = true := by rw [bne_iff_ne]; omega
    have ho : openOk ls = false := by unfold openOk; rw [decide_eq_false h4, Bool.false_and]
    have HO := Lib.hid ho
    clear ho h1 hr
    go_enter Try.func14, Try.ntmps14
    go_wp2
    go_ret3
    exact OpenRet.bad HO.out (Below.refl _ _)
end Go.Proofs.Ytkmfacmigonbcaa
