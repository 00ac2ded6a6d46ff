/- page: sound. Conditions: the page lies there. -/
import Derived.Test.YtkknfccfgmflmaaPgIdx
namespace Go.Proofs.Ytkknfccfgmflmaa
open Go.ChangeShapes Go.WideShapes Go.ChangeAt Go.RowKit
open NumMath
set_option linter.unusedVariables false
set_option linter.unusedSimpArgs false
set_option maxRecDepth 20000

/-- the bytes that the first k slots take -/
def tkn (f : Nat → Nat) (k i : Nat) : Bool := (List.range k).any fun s => decide (atN f s ≤ i) && decide (i < atN f s + lenN f s)
/-- a slot lies as it must, behind those ahead of it -/
def goodS (f : Nat → Nat) (c s : Nat) : Prop := (lenN f s = 0 ∧ atN f s = 0) ∨ (0 < lenN f s ∧ lenN f s ≤ 64 ∧ 16 + 4 * c ≤ atN f s ∧ atN f s + lenN f s ≤ 448 ∧ ∀ j, j < lenN f s → tkn f s (atN f s + j) = false)
structure SoundP (f : Nat → Nat) : Prop where
  c40 : cnt f ≤ 40
  good : ∀ s, s < cnt f → goodS f (cnt f) s
  zero : ∀ i, 16 + 4 * cnt f ≤ i → i < 448 → tkn f (cnt f) i = true ∨ f i = 0
  low : lowC f (slotsF f) 448 = lowN f
  top : cnt f = 0 ∨ 0 < lenN f (cnt f - 1)
def bools (t : Nat → Bool) : Array Value := ((List.range 448).map fun i => Value.bool (t i)).toArray
theorem bools_cell (t : Nat → Bool) (i : Nat) (h : i < 448) : (bools t)[i]? = some (.bool (t i)) := by
  simp [bools, List.getElem?_range, h]
theorem bools_set (t : Nat → Bool) (i : Nat) : (bools t).setIfInBounds i (.bool true) = bools fun j => t j || decide (i = j) := by
  unfold bools
  rw [List.setIfInBounds_toArray]
  congr 1
  apply List.ext_getElem?
  intro j
  rw [List.getElem?_set, List.getElem?_map, List.getElem?_map]
  by_cases h : i = j
  · subst h
    rcases Nat.lt_or_ge i 448 with q | q
    · simp [List.getElem?_range, q]
    · rw [if_pos rfl, if_neg (by simp; omega), List.getElem?_eq_none (by simp; omega)]
      rfl
  · rw [if_neg h]
    have : (fun j => Value.bool (t j || decide (i = j))) = fun j => if i = j then Value.bool true else Value.bool (t j) := by
      funext j
      by_cases q : i = j <;> simp [q]
    rw [this]
    rcases Nat.lt_or_ge j 448 with q | q
    · rw [List.getElem?_range q]
      simp [h]
    · rw [List.getElem?_eq_none (by simp; omega)]
      rfl
theorem tkn_next (f : Nat → Nat) (k : Nat) : tkn f (k + 1) = fun i => tkn f k i || (decide (atN f k ≤ i) && decide (i < atN f k + lenN f k)) := by
  funext i
  unfold tkn
  rw [List.range_succ, List.any_append]
  simp
theorem tkn_zero (f : Nat → Nat) : tkn f 0 = fun _ => false := rfl
def SoundPost (Q : Prop) (w : World) (e : Ending) (w' : World) : Prop := (∃ b : Bool, e = .returned (.bool b) ∧ (b = true ↔ Q)) ∧ Below w.heap.size w w'
section
variable {w : World} {gp : Nat} {f : Nat → Nat}
set_option maxHeartbeats 16000000 in
theorem sound_any (h : PgAt w gp f) :
    Calls Try.prog 51 #[.pointer (some ⟨gp, 0, none⟩)] w (SoundPost (SoundP f) w) := by
  have cc := fun (W : World) (hb : Below w.heap.size w W) => count_any (h.below hb)
  have hsm := h.small
  have hc16 := rd2_lt hsm 12
  rw [show rd f 12 2 = cnt f from rfl] at hc16
  rcases Nat.lt_or_ge 40 (cnt f) with h40 | h40
  · have t1 : decide ((40 : Int) < (cnt f : Int)) = true := by rw [decide_eq_true_iff]; omega
    have FIN : Hid (false = true ↔ SoundP f) := Lib.hid ⟨fun z => (Bool.noConfusion z), fun z => absurd z.c40 (by omega)⟩
    have c1 := cc w (Below.refl _ _)
    clear cc h hsm
    generalize cnt f = c at *
    go_enter Try.func51, Try.ntmps51
    go_wp2_with fail
    refine c1.mono ?_
    rintro e w1 ⟨rfl, rfl⟩
    go_wp2
    go_ret
    exact ⟨⟨_, rfl, FIN.out⟩, Below.refl _ _⟩
  · have hat := fun (s : Nat) (hs : s < cnt f) (W : World) (hb : Below w.heap.size w W) => at_in (h.below hb) s hs h40
    have hend := fun W => end_any (cnt f) (by omega) W
    have hato := fun (W : World) (hb : Below w.heap.size w W) (hz : cnt f = 0) => at_out (h.below hb) (-1) (by omega)
    have hlow := fun (W : World) (hb : Below w.heap.size w W) => low_any (h.below hb)
    have hbyte := fun (W : World) (hb : Below w.heap.size w W) (i : Nat) (hi : i < 448) => (h.below hb).blk.cell i
    have hgw := h.lt
    have hcell : ∀ (W : World) (hb : Below w.heap.size w W) (i : Nat) (hi : i < 448), W.cell? ⟨gp, i, none⟩ = some (.int .u8 (f i : Nat)) := fun W hb i hi => by
      rw [hbyte W hb i hi]
      simp [pgL, byteV, List.getElem?_range, hi]
    have FIN : ∀ b : Bool, (b = true ↔ SoundP f) → Hid (b = true ↔ SoundP f) := fun b hb => Lib.hid hb
    have hq : 16 + 4 * cnt f ≤ 176 := by omega
    have NO : (¬ SoundP f) → Hid (false = true ↔ SoundP f) := fun z => Lib.hid ⟨fun y => Bool.noConfusion y, fun y => absurd y z⟩
    have hz : Try.zeroCells73 = bools (tkn f 0) := by rw [tkn_zero]; kernel_rfl
    have h0 : Blk (w.alloc (.cells Try.zeroCells73 73)) w.heap.size 73 (bools (tkn f 0)) := by rw [hz]; exact Blk.new w _ _
    have hb0 : Below w.heap.size w (w.alloc (.cells Try.zeroCells73 73)) := (Below.refl _ _).alloc (Nat.le_refl _) _
    have c1 := cc w (Below.refl _ _)
    have c2 := cc _ hb0
    have c40 : decide ((40 : Int) < (cnt f : Int)) = false := by rw [decide_eq_false_iff_not]; omega
    have hSd : SoundP f = ((∀ s, s < cnt f → goodS f (cnt f) s) ∧ (∀ i, 16 + 4 * cnt f ≤ i → i < 448 → tkn f (cnt f) i = true ∨ f i = 0) ∧ lowC f (slotsTo f (cnt f)) 448 = lowN f ∧ (cnt f = 0 ∨ 0 < lenN f (cnt f - 1))) :=
      propext ⟨fun z => ⟨z.good, z.zero, z.low, z.top⟩, fun z => ⟨h40, z.1, z.2.1, z.2.2.1, z.2.2.2⟩⟩
    clear hbyte h hz
    rw [hSd] at FIN NO
    have HSD := Lib.hid hSd
    clear hSd
    have hq2 : Hid (16 + 4 * cnt f = 16 + 4 * cnt f) := Lib.hid rfl
    have hwg : w.heap.size ≠ gp := by omega
    generalize hcq : 16 + 4 * cnt f = q at *
    have HQ := Lib.hid hcq
    clear hcq hq2
    generalize cnt f = c at *
    have hl16 := rd2_lt hsm 14
    rw [show rd f 14 2 = lowN f from rfl] at hl16
    go_enter Try.func51, Try.ntmps51
    go_wp2_with fail
    refine c1.mono ?_
    rintro e w1 ⟨rfl, rfl⟩
    clear c1
    go_wp2_with fail
    refine c2.mono ?_
    rintro e w2 ⟨rfl, rfl⟩
    clear c2 c40
    generalize World.alloc w _ = w0 at *
    go_wp2_with fail
    go_loopw [17, 4, 5, 6, 7, 8] (fun i lv _ _ _ _ wr => ∃ k : Nat, k ≤ c ∧ i = .int .i64 k ∧ lv = .int .i64 (lowC f (slotsTo f k) 448 : Nat) ∧ (∀ s, s < k → goodS f c s) ∧ Blk wr w.heap.size 73 (bools (tkn f k)) ∧ Below w.heap.size w wr) (fun i _ _ _ _ _ _ => c - (intOf i).toNat)
    case atStart => exact ⟨0, Nat.zero_le _, rfl, rfl, fun s hs => absurd hs (Nat.not_lt_zero s), h0, hb0⟩
    case round =>
      obtain ⟨k, hk, rfl, rfl, hgood, hB, hb⟩ := hrel
      clear h0 hb0
      rcases Nat.lt_or_ge k c with hlt | hge
      · have e1 : decide ((k : Int) < (c : Int)) = true := by rw [decide_eq_true_iff]; omega
        have ca := hat k hlt wr hb
        have cc1 := cc wr hb
        have ce1 := hend wr
        have hx16 : atN f k < 65536 := rd2_lt hsm _
        have hy16 : lenN f k < 65536 := rd2_lt hsm _
        have hlw := lowC_le f (slotsTo f k) 448
        have hsn := slotsTo_next f k
        have htn := tkn_next f k
        have hgd : goodS f c k = goodS f c k := rfl
        conv at hgd => rhs; unfold goodS
        have hln := lowC_snoc f (slotsTo f k) k 448
        rw [HQ.out] at hgd
        generalize hx : atN f k = x at *
        generalize hy : lenN f k = y at *
        clear hx hy
        have SB : (¬ goodS f c k) → Hid (false = true ↔ ((∀ s, s < c → goodS f c s) ∧ (∀ i, q ≤ i → i < 448 → tkn f c i = true ∨ f i = 0) ∧ lowC f (slotsTo f c) 448 = lowN f ∧ (c = 0 ∨ 0 < lenN f (c - 1)))) := fun z => NO fun z2 => z (z2.1 k hlt)
        rw [hgd] at SB
        clear NO FIN hato hlow
        by_cases hy0 : y = 0
        · subst hy0
          by_cases hx0 : x = 0
          · subst hx0
            rw [if_neg (by omega), List.append_nil] at hsn
            have ht2 : tkn f (k + 1) = tkn f k := by
              rw [htn]
              funext i
              have : decide (i < 0 + 0) = false := decide_eq_false (by omega)
              rw [this, Bool.and_false, Bool.or_false]
            have FIN := Lib.hid (And.intro hsn (And.intro ht2 (And.intro (hgd.mpr (Or.inl ⟨rfl, rfl⟩)) (And.intro hgood (And.intro hB hb)))))
            clear hsn ht2 htn hgd hln SB hgood hB
            generalize hlv : lowC f (slotsTo f k) 448 = lv at *
            have HLV := Lib.hid hlv
            clear hlv
            go_wp2_with fail
            refine ca.mono ?_
            rintro e w2 ⟨rfl, rfl⟩
            clear ca
            go_wp2
            go_roundw
            case rel =>
              refine ⟨k + 1, by omega, by go_num, by rw [FIN.out.1, HLV.out], fun s hs => ?_, by rw [FIN.out.2.1]; exact FIN.out.2.2.2.2.1, hb⟩
              rcases Nat.lt_or_ge s k with z | z
              · exact FIN.out.2.2.2.1 s z
              · obtain rfl : s = k := by omega
                exact FIN.out.2.2.1
            case measure => simp [intOf]; omega
          · have t1 : ((x : Int) == 0) = false := by rw [beq_eq_false_iff_ne]; omega
            have FIN := SB (fun z => by rcases z with z | z <;> omega)
            clear hsn htn hgd hln SB hgood hB
            go_wp2_with fail
            refine ca.mono ?_
            rintro e w2 ⟨rfl, rfl⟩
            clear ca
            go_wp2
            go_ret
            exact ⟨⟨_, rfl, by rw [HSD.out]; exact FIN.out⟩, hb⟩
        · have t1 : ((y : Int) == 0) = false := by rw [beq_eq_false_iff_ne]; omega
          rcases Nat.lt_or_ge 64 y with hy64 | hy64
          · have t2 : decide ((64 : Int) < (y : Int)) = true := by rw [decide_eq_true_iff]; omega
            have FIN := SB (fun z => by rcases z with z | z <;> omega)
            clear hsn htn hgd hln SB hgood hB
            go_wp2_with fail
            refine ca.mono ?_
            rintro e w2 ⟨rfl, rfl⟩
            clear ca
            go_wp2
            go_ret
            exact ⟨⟨_, rfl, by rw [HSD.out]; exact FIN.out⟩, hb⟩
          · have t2 : decide ((64 : Int) < (y : Int)) = false := by rw [decide_eq_false_iff_not]; omega
            rcases Nat.lt_or_ge x q with hxq | hxq
            · have t3 : decide ((x : Int) < (q : Int)) = true := by rw [decide_eq_true_iff]; omega
              have FIN := SB (fun z => by rcases z with z | z <;> omega)
              clear hsn htn hgd hln SB hgood hB
              go_wp2_with fail
              refine ca.mono ?_
              rintro e w2 ⟨rfl, rfl⟩
              clear ca
              go_wp2_with fail
              refine cc1.mono ?_
              rintro e w2 ⟨rfl, rfl⟩
              clear cc1
              go_wp2_with fail
              refine ce1.mono ?_
              rintro e w2 ⟨rfl, rfl⟩
              clear ce1
              go_wp2
              go_ret
              exact ⟨⟨_, rfl, by rw [HSD.out]; exact FIN.out⟩, hb⟩
            · have t3 : decide ((x : Int) < (q : Int)) = false := by rw [decide_eq_false_iff_not]; omega
              rcases Nat.lt_or_ge 448 (x + y) with hxy | hxy
              · have t4 : decide ((448 : Int) < (x : Int) + (y : Int)) = true := by rw [decide_eq_true_iff]; omega
                have FIN := SB (fun z => by rcases z with z | z <;> omega)
                clear hsn htn hgd hln SB hgood hB
                go_wp2_with fail
                refine ca.mono ?_
                rintro e w2 ⟨rfl, rfl⟩
                clear ca
                go_wp2_with fail
                refine cc1.mono ?_
                rintro e w2 ⟨rfl, rfl⟩
                clear cc1
                go_wp2_with fail
                refine ce1.mono ?_
                rintro e w2 ⟨rfl, rfl⟩
                clear ce1
                go_wp2
                go_ret
                exact ⟨⟨_, rfl, by rw [HSD.out]; exact FIN.out⟩, hb⟩
              · have t4 : decide ((448 : Int) < (x : Int) + (y : Int)) = false := by rw [decide_eq_false_iff_not]; omega
                have s1 : (0 : Int) ≤ (x : Int) := by omega
                have s2 : (x : Int) ≤ (x : Int) + (y : Int) := by omega
                have s3 : (x : Int) + (y : Int) ≤ 448 := by omega
                have s5 : (448 = x) = False := eq_false (by omega)
                have hcont := cont_any w.heap.size x y (448 - x) (tkn f k) wr (fun j hj => by rw [hB.cell (x + j), bools_cell _ _ (by omega)]) (by omega)
                go_wp2_with fail
                refine ca.mono ?_
                rintro e w2 ⟨rfl, rfl⟩
                clear ca
                go_wp2_with fail
                refine cc1.mono ?_
                rintro e w2 ⟨rfl, rfl⟩
                clear cc1
                go_wp2_with fail
                refine ce1.mono ?_
                rintro e w2 ⟨rfl, rfl⟩
                clear ce1
                go_wp2_with fail
                rw [show x + y - x = y by omega]
                refine hcont.mono ?_
                rintro e w2 ⟨⟨r, rfl, hr⟩, rfl⟩
                clear hcont
                cases r
                · have hall : ∀ j, j < y → tkn f k (x + j) = false := fun j hj => by
                    cases hz : tkn f k (x + j)
                    · rfl
                    · exact absurd (hr.mpr ⟨j, hj, hz⟩) (by simp)
                  have hG := hgd.mpr (Or.inr ⟨by omega, hy64, hxq, hxy, hall⟩)
                  rw [if_pos (by omega : 0 < y)] at hsn
                  rw [← hsn] at hln
                  have FIN := Lib.hid (And.intro hln (And.intro htn (And.intro hG hgood)))
                  clear hln htn hG hgood hall hgd SB hsn hr
                  go_wp2_with fail
                  go_loopw [8, 54] (fun _ i wr => ∃ j : Nat, j ≤ y ∧ i = .int .i64 j ∧ Blk wr w.heap.size 73 (bools fun i => tkn f k i || (decide (x ≤ i) && decide (i < x + j))) ∧ Below w.heap.size w wr) (fun _ i _ => y - (intOf i).toNat)
                  case atStart =>
                    refine ⟨0, Nat.zero_le _, rfl, ?_, hb⟩
                    rw [show (fun i => tkn f k i || (decide (x ≤ i) && decide (i < x + 0))) = tkn f k by
                      funext i
                      rcases Nat.lt_or_ge i x with z | z
                      · rw [decide_eq_false (by omega : ¬ x ≤ i), Bool.false_and, Bool.or_false]
                      · rw [decide_eq_false (by omega : ¬ i < x + 0), Bool.and_false, Bool.or_false]]
                    exact hB
                  case round =>
                    clear hB hb
                    obtain ⟨j, hj, rfl, hB, hb⟩ := hrel
                    rcases Nat.lt_or_ge j y with hjy | hjy
                    · have e2 : decide ((j : Int) < (y : Int)) = true := by rw [decide_eq_true_iff]; omega
                      have i1 : (0 : Int) ≤ (x : Int) + (j : Int) := by omega
                      have i2 : (x : Int) + (j : Int) < 448 := by omega
                      have fz := hB.frozen (x + j)
                      have hcl := hB.cell (x + j)
                      rw [bools_cell _ _ (by omega)] at hcl
                      have hB2 := hB.set_ (x + j) (.bool true)
                      rw [bools_set] at hB2
                      have hb2 := hb.setCell (p := ⟨w.heap.size, x + j, none⟩) (Nat.le_refl _) (.bool true)
                      have F2 := Lib.hid (And.intro hB2 hb2)
                      clear hB2 hb2 hB
                      generalize (tkn f k (x + j) || (decide (x ≤ x + j) && decide (x + j < x + j))) = ob at *
                      go_wp2
                      go_roundw
                      case rel =>
                        refine ⟨j + 1, by omega, by go_num, ?_, F2.out.2⟩
                        have := F2.out.1
                        rw [show (fun i => tkn f k i || (decide (x ≤ i) && decide (i < x + (j + 1)))) = fun i => (tkn f k i || (decide (x ≤ i) && decide (i < x + j))) || decide (x + j = i) by
                          funext i
                          rw [Bool.or_assoc]
                          congr 1
                          rw [Bool.eq_iff_iff]
                          simp only [Bool.and_eq_true, Bool.or_eq_true, decide_eq_true_eq]
                          omega]
                        exact this
                      case measure => simp [intOf]; omega
                    · obtain rfl : j = y := by omega
                      have e2 : decide ((j : Int) < (j : Int)) = false := by rw [decide_eq_false_iff_not]; omega
                      have FB := Lib.hid (And.intro hB hb)
                      clear hB
                      generalize hlv : lowC f (slotsTo f k) 448 = lv at *
                      have HLV := Lib.hid hlv
                      clear hlv
                      rcases Nat.lt_or_ge x lv with z | z
                      · have q1 : (x : Int) < (lv : Int) := by omega
                        have q2 : ¬ (lv : Int) ≤ (x : Int) := by omega
                        go_wp2
                        go_roundw
                        case rel =>
                          refine ⟨k + 1, by omega, by go_num, by rw [FIN.out.1, Nat.min_eq_right (by omega)], fun s hs => ?_, by rw [FIN.out.2.1]; exact FB.out.1, FB.out.2⟩
                          rcases Nat.lt_or_ge s k with z | z
                          · exact FIN.out.2.2.2 s z
                          · obtain rfl : s = k := by omega
                            exact FIN.out.2.2.1
                        case measure => simp [intOf]; omega
                      · have q2 : (lv : Int) ≤ (x : Int) := by omega
                        go_wp2
                        go_roundw
                        case rel =>
                          refine ⟨k + 1, by omega, by go_num, by rw [FIN.out.1, Nat.min_eq_left (by omega)], fun s hs => ?_, by rw [FIN.out.2.1]; exact FB.out.1, FB.out.2⟩
                          rcases Nat.lt_or_ge s k with z | z
                          · exact FIN.out.2.2.2 s z
                          · obtain rfl : s = k := by omega
                            exact FIN.out.2.2.1
                        case measure => simp [intOf]; omega
                · obtain ⟨j, hj, hjt⟩ := hr.mp rfl
                  have FIN := SB (fun z => by
                    rcases z with z | z
                    · omega
                    · rw [z.2.2.2.2 j hj] at hjt
                      cases hjt)
                  clear hsn htn hgd hln SB hgood hB hr hjt
                  go_wp2
                  go_ret
                  exact ⟨⟨_, rfl, by rw [HSD.out]; exact FIN.out⟩, hb⟩
      · obtain rfl : k = c := by omega
        have e1 : decide ((k : Int) < (k : Int)) = false := by rw [decide_eq_false_iff_not]; omega
        have cc1 := cc wr hb
        have ce1 := hend wr
        have cl1 := hlow wr hb
        have hpg := hcell wr hb
        clear hcell cc hend
        generalize hlv : lowC f (slotsTo f k) 448 = lv at *
        have HLV := Lib.hid hlv
        clear hlv
        go_wp2_with fail
        refine cc1.mono ?_
        rintro e w2 ⟨rfl, rfl⟩
        go_wp2_with fail
        refine ce1.mono ?_
        rintro e w2 ⟨rfl, rfl⟩
        clear ce1
        go_wp2_with fail
        go_loop [9] (fun i => ∃ j : Nat, q ≤ j ∧ j ≤ 448 ∧ i = .int .i64 j ∧ ∀ i, q ≤ i → i < j → tkn f k i = true ∨ f i = 0) (fun i => 448 - (intOf i).toNat)
        case atStart => exact ⟨q, Nat.le_refl _, by omega, rfl, fun i h1 h2 => absurd h1 (by omega)⟩
        case round =>
          obtain ⟨j, hj1, hj2, rfl, hjz⟩ := hrel
          rcases Nat.lt_or_ge j 448 with hlt | hge
          · have e2 : decide ((j : Int) < 448) = true := by rw [decide_eq_true_iff]; omega
            have i1 : (0 : Int) ≤ (j : Int) := by omega
            have i2 : (j : Int) < 448 := by omega
            have hc1 := hB.cell j
            rw [bools_cell _ _ hlt] at hc1
            have hc2 := hpg j hlt
            generalize htj : tkn f k j = tb at *
            generalize hfj : f j = v at *
            have ON : (tb = true ∨ v = 0) → Hid (∀ i, q ≤ i → i < j + 1 → tkn f k i = true ∨ f i = 0) := fun z => Lib.hid fun i h1 h2 => by
              rcases Nat.lt_or_ge i j with y | y
              · exact hjz i h1 y
              · obtain rfl : i = j := by omega
                rw [htj, hfj]
                exact z
            have OFF : ¬ (tb = true ∨ v = 0) → Hid (false = true ↔ ((∀ s, s < k → goodS f k s) ∧ (∀ i, q ≤ i → i < 448 → tkn f k i = true ∨ f i = 0) ∧ lv = lowN f ∧ (k = 0 ∨ 0 < lenN f (k - 1)))) := fun z => NO fun y => z (by
              have := y.2.1 j hj1 hlt
              rw [htj, hfj] at this
              exact this)
            clear htj hfj hjz NO FIN hB hpg hgood
            cases tb
            · by_cases hv : v = 0
              · subst hv
                have H := ON (Or.inr rfl)
                clear ON OFF
                go_wp2
                go_round
                case rel => exact ⟨j + 1, by omega, by omega, by go_num, H.out⟩
                case measure => simp [intOf]; omega
              · have t1 : ((v : Int) != 0) = true := by rw [bne_iff_ne]; omega
                have H := OFF (by simp; exact hv)
                clear ON OFF
                go_wp2
                go_ret
                exact ⟨⟨_, rfl, by rw [HSD.out]; exact H.out⟩, hb⟩
            · have H := ON (Or.inl rfl)
              clear ON OFF
              go_wp2
              go_round
              case rel => exact ⟨j + 1, by omega, by omega, by go_num, H.out⟩
              case measure => simp [intOf]; omega
          · obtain rfl : j = 448 := by omega
            have e2 : decide (((448 : Nat) : Int) < 448) = false := by decide
            have FIN2 : Hid (∀ b : Bool, (b = true ↔ (lv = lowN f ∧ (k = 0 ∨ 0 < lenN f (k - 1)))) → (b = true ↔ ((∀ s, s < k → goodS f k s) ∧ (∀ i, q ≤ i → i < 448 → tkn f k i = true ∨ f i = 0) ∧ lv = lowN f ∧ (k = 0 ∨ 0 < lenN f (k - 1))))) := Lib.hid fun b hb => ⟨fun z => ⟨hgood, hjz, hb.mp z⟩, fun z => hb.mpr z.2.2⟩
            clear NO FIN hgood hjz hB hpg
            generalize hlN : lowN f = lN at *
            clear hlN
            rcases Nat.eq_zero_or_pos k with hk0 | hk0
            · subst hk0
              have ca := hato wr hb rfl
              clear hato hat
              go_wp2_with fail
              refine cc1.mono ?_
              rintro e w2 ⟨rfl, rfl⟩
              go_wp2_with fail
              refine ca.mono ?_
              rintro e w2 ⟨rfl, rfl⟩
              clear ca
              go_wp2_with fail
              refine cl1.mono ?_
              rintro e w2 ⟨rfl, rfl⟩
              clear cl1
              by_cases hll : lv = lN
              · subst hll
                go_wp2_with fail
                refine cc1.mono ?_
                rintro e w2 ⟨rfl, rfl⟩
                go_wp2
                go_ret
                exact ⟨⟨true, rfl, by rw [HSD.out]; simpa using FIN2.out true (by simp)⟩, hb⟩
              · have t1 : ((lv : Int) == (lN : Int)) = false := by rw [beq_eq_false_iff_ne]; omega
                have FIN := Lib.hid (FIN2.out false (by simp [hll]))
                clear hll FIN2
                go_wp2
                go_ret
                exact ⟨⟨false, rfl, by rw [HSD.out]; simpa using FIN.out⟩, hb⟩
            · have ca := hat (k - 1) (by omega) wr hb
              clear hato hat
              obtain ⟨k', rfl⟩ : ∃ k', k = k' + 1 := ⟨k - 1, by omega⟩
              rw [show k' + 1 - 1 = k' from rfl] at ca FIN2 
              have z1 : ((k' + 1 : Nat) : Int) - 1 = (k' : Int) := by omega
              have z2 : (((k' + 1 : Nat) : Int) == 0) = false := by rw [beq_eq_false_iff_ne]; omega
              generalize hkk : k' + 1 = kk at *
              generalize hyy : lenN f k' = y at *
              generalize atN f k' = x at *
              have HYK : Hid (lenN f (kk - 1) = y) := Lib.hid (by rw [← hkk]; exact hyy)
              have hkk0 : Hid (kk ≠ 0) := Lib.hid (by omega)
              clear hkk hyy hk0
              go_wp2_with fail
              refine cc1.mono ?_
              rintro e w2 ⟨rfl, rfl⟩
              go_wp2_with fail
              refine ca.mono ?_
              rintro e w2 ⟨rfl, rfl⟩
              clear ca
              go_wp2_with fail
              refine cl1.mono ?_
              rintro e w2 ⟨rfl, rfl⟩
              clear cl1
              by_cases hll : lv = lN
              · subst hll
                go_wp2_with fail
                refine cc1.mono ?_
                rintro e w2 ⟨rfl, rfl⟩
                go_wp2
                go_ret
                exact ⟨⟨decide (0 < y), by simp, by rw [HSD.out, HYK.out]; exact (by simpa using FIN2.out (decide (0 < y)) (by have := hkk0.out; simp [this]))⟩, hb⟩
              · have t1 : ((lv : Int) == (lN : Int)) = false := by rw [beq_eq_false_iff_ne]; omega
                have FIN := Lib.hid (FIN2.out false (by simp [hll]))
                clear hll FIN2
                go_wp2
                go_ret
                exact ⟨⟨false, rfl, by rw [HSD.out, HYK.out]; simpa using FIN.out⟩, hb⟩
end
end Go.Proofs.Ytkknfccfgmflmaa
