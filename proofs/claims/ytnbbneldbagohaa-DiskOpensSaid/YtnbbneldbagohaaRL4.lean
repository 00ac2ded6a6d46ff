/- The law DiskOpens. Conditions: none. -/
import Derived.Test.YtnbbneldbagohaaDOpen
import Derived.Test.YtnbbneldbagohaaRL2
import Derived.Test.YtnbbneldbagohaaLentBlocks
namespace Go.Proofs.Ytnbbneldbagohaa
open Go.ChangeShapes Go.WideShapes Go.ChangeAt Go.RowKit
set_option linter.unusedVariables false
set_option linter.unusedSimpArgs false
set_option maxRecDepth 20000

/-- the first cell of a block of bytes that may be written -/
def Box8 (w : World) (g : Nat) : Prop := (∃ z : Int, w.cell? ⟨g, 0, none⟩ = some (.int .u8 z)) ∧ w.frozen? ⟨g, 0, none⟩ = false
theorem Box8.set {w : World} {g h : Nat} {z : Int} (hg : Box8 w g) (hh : Box8 w h) : Box8 (w.setCell ⟨h, 0, none⟩ (.int .u8 z)) g := by
  refine ⟨?_, (World.frozen?_setCell _ _ _ _).trans hg.2⟩
  obtain ⟨z1, c1⟩ := hg.1
  obtain ⟨z2, c2⟩ := hh.1
  by_cases e : g = h
  · subst e
    exact ⟨z, World.cell?_setCell_same _ _ _ c2⟩
  · refine ⟨z1, ?_⟩
    have hO : Only (fun b => b = h) w (w.setCell ⟨h, 0, none⟩ (.int .u8 z)) := (Only.refl (fun b => b = h) w).setCell (p := ⟨h, 0, none⟩) (.inl rfl) _
    have hlt : g < w.heap.size := by
      rcases Nat.lt_or_ge g w.heap.size with q | q
      · exact q
      · exfalso
        have : w.heap[g]? = none := by rw [Array.getElem?_eq_none]; exact q
        unfold World.cell? at c1
        simp only [this] at c1
        cases c1
    exact (hO.cell (p := ⟨g, 0, none⟩) hlt e).trans c1
/-- a told row, each text of 128 bytes: all that the loop over it wants -/
def Turn8 (w5 : World) (A : Option Addr) (n : Nat) (L : List Value) (B : Nat) : Prop :=
  ∀ k, k < n → ∃ b g c, A = some ⟨b, 0, none⟩ ∧ b < w5.heap.size ∧ ¬ U8 w5 b ∧ w5.cell? ⟨b, k, none⟩ = some (.slice (some ⟨g, 0, none⟩) 128 c) ∧ L[k]? = some (.slice (some ⟨g, 0, none⟩) 128 c) ∧ B ≤ g ∧ g < w5.heap.size ∧ U8 w5 g ∧ Box8 w5 g
theorem turn8_of {w w5 : World} {A : Option Addr} {n c : Nat} {L : List Value} {ls : List (List Nat)} (ho : w5.ownsRow w.heap.size 28 1 (.slice A n c) n L) (hr : Rows w5 w.heap.size L ls) (hl : ls.length = n) (h128 : okL ls) : Turn8 w5 A n L w.heap.size := fun k hk => by
  obtain ⟨b, rfl, hb1, hb2⟩ := own_pos ho (by omega)
  have hL : k < L.length := by rw [hr.1]; omega
  obtain ⟨⟨A1, c1, e⟩, h2, h3⟩ := hr.2 k _ _ (List.getElem?_eq_getElem hL) (List.getElem?_eq_getElem (show k < ls.length by omega))
  have hx : (ls[k]'(by omega)).length = 128 := h128 _ (List.getElem_mem _)
  rw [hx] at e h2
  rw [e] at h2
  obtain ⟨g, rfl, hg1, hg2⟩ := own_pos h2 (by omega)
  have hu : U8 w5 g := own_ty h2 rfl
  refine ⟨b, g, c1, rfl, hb2, fun z => absurd (z.uniq' (own_ty ho rfl)) (by decide), (ho.cellAt k (by omega)).trans ((List.getElem?_eq_getElem hL).trans (by rw [e])), (List.getElem?_eq_getElem hL).trans (by rw [e]), hg1, hg2, hu, ⟨?_, h2.frozenAt 0⟩⟩
  have hc := h2.cellAt 0 (by omega)
  rw [List.getElem?_map, List.getElem?_eq_getElem (show 0 < (ls[k]'(by omega)).length by omega)] at hc
  exact ⟨_, hc⟩
set_option maxHeartbeats 8000000 in
theorem opens_any (A : Option Addr) (c : Nat) (L : List Value) (la : List (List Nat)) (A' : Option Addr) (c' : Nat) (L' : List Value) (lb : List (List Nat)) (w : World) (h1 : At w w.heap.size A L) (hr1 : Reads w w.heap.size L la) (h2 : At w w.heap.size A' L') (hr2 : Reads w w.heap.size L' lb) :
    Calls Try.prog 8 #[.slice A la.length c, .slice A' lb.length c'] w (TrueB w) := by
  have s1 := sectors_any A c L la w.heap.size w h1 hr1 40 (by omega)
  have s2 := sectors_any A' c' L' lb w.heap.size w h2 hr2 40 (by omega)
  cases hs1 : sectB la 40 with
  | false =>
    rw [hs1] at s1
    clear s2 h1 hr1 h2 hr2
    go_enter Try.func8, Try.ntmps8
    go_wp2_with fail
    refine s1.mono ?_
    rintro e w1 ⟨rfl, rfl⟩
    go_wp2_with fail
    refine (known_any _).mono ?_
    rintro e w1 ⟨rfl, b1⟩
    go_wp2
    go_ret
    exact ⟨rfl, b1⟩
  | true =>
  rw [hs1] at s1
  cases hs2 : sectB lb 40 with
  | false =>
    rw [hs2] at s2
    clear h1 hr1 h2 hr2
    go_enter Try.func8, Try.ntmps8
    go_wp2_with fail
    refine s1.mono ?_
    rintro e w1 ⟨rfl, rfl⟩
    go_wp2_with fail
    refine s2.mono ?_
    rintro e w1 ⟨rfl, rfl⟩
    go_wp2_with fail
    refine (known_any _).mono ?_
    rintro e w1 ⟨rfl, b1⟩
    go_wp2
    go_ret
    exact ⟨rfl, b1⟩
  | true =>
  rw [hs2] at s2
  obtain ⟨n1, n2⟩ := sectB_le hs1
  obtain ⟨n3, n4⟩ := sectB_le hs2
  clear hs1 hs2
  go_enter Try.func8, Try.ntmps8
  go_wp2_with fail
  refine s1.mono ?_
  rintro e w1 ⟨rfl, rfl⟩
  go_wp2_with fail
  refine s2.mono ?_
  rintro e w1 ⟨rfl, rfl⟩
  go_wp2_with fail
  refine (known_any _).mono ?_
  rintro e w1 ⟨rfl, b1⟩
  clear s1 s2
  have c1 := lentBlocks_any A c L la w.heap.size w1 (h1.below b1) (hr1.below b1) b1.size (by omega) (fun l hl => by have := n2 l hl; omega)
  go_wp2_with fail
  refine c1.mono ?_
  rintro e w2 ⟨A2, m2, L2, rfl, o2, r2, b2⟩
  have bw2 := b1.trans (b2.mono b1.size)
  have c2 := lentBlocks_any A' c' L' lb w.heap.size w2 (h2.below bw2) (hr2.below bw2) bw2.size (by omega) (fun l hl => by have := n4 l hl; omega)
  clear c1
  go_wp2_with fail
  refine c2.mono ?_
  rintro e w3 ⟨A3, m3, L3, rfl, o3, r3, b3⟩
  have bw3 := bw2.trans (b3.mono bw2.size)
  have o2b := kept_below b3 o2
  have r2b : Rows w3 w1.heap.size L2 la := r2.imp fun v l h => kept_below b3 h
  clear c2 o2 r2
  have c3 := dopen_any A2 A3 m2 m3 L2 L3 la lb w3.heap.size w3 (At.own o2b) r2b.reads (At.own o3) r3.reads (Nat.le_refl _) (by omega) (by omega)
  go_wp2_with fail
  refine c3.mono ?_
  rintro e w4 ⟨p1, p1n, b4⟩
  have bw4 := bw3.trans (b4.mono bw3.size)
  have c4 := ropen_any A A' c c' L L' la lb w.heap.size w4 (h1.below bw4) (hr1.below bw4) (h2.below bw4) (hr2.below bw4) bw4.size (by omega) (by omega)
  clear c3
  by_cases hok : okL la ∧ okL lb
  · obtain ⟨p, rfl, hd1⟩ := p1 hok
    clear p1 p1n
    have hA := Dv.start (w0 := w3) hd1 (Nat.le_refl _)
    obtain ⟨gp1, _, _, _, rfl, -⟩ := hA.dev
    go_wp2_with fail
    refine c4.mono ?_
    rintro e w5 ⟨p2, -, b5⟩
    obtain ⟨p, rfl, hd2⟩ := p2 hok
    have hB := Rv.start (w0 := w3) hd2 b4.size
    have hdis : ∀ x, newB w3 w4 x → newB w4 w5 x → False := fun x q z => by have := q.2; have := z.1; omega
    have hDR : DvR (openP la lb) (openP la lb) w3 w5 (newB w3 w4) (newB w4 w5) _ _ := ⟨hA.below b5, hB, hdis⟩
    have hG := good_open hok.1 hok.2 (by omega) (by omega)
    obtain ⟨gp2, _, _, _, rfl, -⟩ := hDR.b.dev
    have b45 := b4.trans (b5.mono b4.size)
    have bw5 := bw3.trans (b45.mono bw3.size)
    have t8 : Turn8 w5 A2 la.length L2 w1.heap.size := turn8_of (kept_below b45 o2b) (r2b.imp fun v l h => kept_below b45 h) rfl hok.1
    have hup : ∀ (k : Nat) (g cc : Nat), L2[k]? = some (.slice (some ⟨g, 0, none⟩) 128 cc) → k < la.length → g < w3.heap.size := fun k g cc e hk => by
      obtain ⟨-, h2', -⟩ := r2b.2 k _ _ e (List.getElem?_eq_getElem hk)
      exact (h2'.lt g rfl).2
    generalize hF1 : newB w3 w4 = F1 at *
    generalize hF2 : newB w4 w5 = F2 at *
    have hlow1 : ∀ b, F1 b → w3.heap.size ≤ b := fun b z => hDR.a.lo b z
    have hlow2 : ∀ b, F2 b → w3.heap.size ≤ b := fun b z => hDR.b.lo b z
    generalize openP la lb = D at *
    clear c4 p2 hA hB hdis hd1 hd2 o2b r2b o3 r3 h1 hr1 h2 hr2 hF1 hF2 hok n2 n4
    obtain ⟨na, hna⟩ : ∃ na, la.length = na := ⟨_, rfl⟩
    rw [hna] at t8 n1 hup ⊢
    clear hna
    have hw5 := bw5.size
    have hw13 := bw2.size
    go_wp2_with fail
    go_loopw [9] (fun i wr => ∃ k : Nat, k ≤ na ∧ i = .int .i64 k ∧ Only (fun b => w1.heap.size ≤ b ∧ b < w3.heap.size ∧ U8 w5 b) w5 wr ∧ (∀ g, Box8 w5 g → Box8 wr g)) (fun i _ => na - (intOf i).toNat)
    case atStart => exact ⟨0, Nat.zero_le _, rfl, Only.refl _ _, fun g h => h⟩
    case round =>
      obtain ⟨k, hk, rfl, hO, hbx⟩ := hrel
      rcases Nat.lt_or_ge k na with hlt | hge
      · have e1 : decide ((k : Int) < (na : Int)) = true := by rw [decide_eq_true_iff]; omega
        have e2 : (0 : Int) ≤ (k : Int) := by omega
        have e3 : (k : Int) < (na : Int) := by omega
        obtain ⟨bb, g, cc, rfl, q1, q2, q3, q4, q5, q6, q7, q8⟩ := t8 k hlt
        have x0 := (hO.cell (p := ⟨bb, k, none⟩) q1 (fun z => q2 z.2.2)).trans q3
        obtain ⟨⟨z, y0⟩, f0⟩ := hbx g q8
        have hg3 := hup k g cc q4 hlt
        have nxt : ∀ v : Int, Only (fun b => w1.heap.size ≤ b ∧ b < w3.heap.size ∧ U8 w5 b) w5 (wr.setCell ⟨g, 0, none⟩ (.int .u8 v)).drew ∧ (∀ h, Box8 w5 h → Box8 (wr.setCell ⟨g, 0, none⟩ (.int .u8 v)).drew h) := fun v => ⟨(hO.setCell (p := ⟨g, 0, none⟩) (.inl ⟨q5, hg3, q7⟩) _).trans (Only.of_below (below_drew0 _) (fun _ => False)) fun _ z => z.elim, fun h hh => (hbx h hh).set (hbx g q8)⟩
        have NXT := Lib.hid nxt
        clear nxt hO hbx
        go_wp2_with fail
        go_region
        all_goals
          go_wp2
          go_roundw
          case rel => exact ⟨k + 1, by omega, by go_num, NXT.out _⟩
          case measure => simp [intOf]; omega
      · obtain rfl : k = na := by omega
        have e1 : decide ((k : Int) < (k : Int)) = false := by rw [decide_eq_false_iff_not]; omega
        have hD6 := hDR.only hO (fun x q z => by have := hlow1 x q; omega) (fun x q z => by have := hlow2 x q; omega)
        have bw6 : Below w.heap.size w wr := bw5.trans (hO.below hw5 fun b z => Nat.le_trans b1.size z.1)
        clear hDR hO hbx t8 hup bw5 bw4 bw3 bw2
        have cI := image_any hD6.a.dev hG 1 (by omega)
        go_wp2_with fail
        refine cI.mono ?_
        rintro e w7 ⟨A7, m7, L7, rfl, o7, r7, b7⟩
        have hD7 := hD6.below b7
        have bw7 := bw6.trans (b7.mono bw6.size)
        have t7 : Turn8 w7 A7 (D.image 1).length L7 wr.heap.size := turn8_of o7 r7 rfl (image_128 hG (by omega))
        have hi1 : ∀ b, F1 b → b < wr.heap.size := hD6.a.hi
        have hi2 : ∀ b, F2 b → b < wr.heap.size := hD6.b.hi
        have hw6 := bw6.size
        have hw7 := bw7.size
        have hil : (D.image 1).length ≤ 100000 := image_len hG 1
        clear cI o7 r7 b7 hD6 bw6
        obtain ⟨nb, hnb⟩ : ∃ nb, (D.image 1).length = nb := ⟨_, rfl⟩
        rw [hnb] at t7 hil ⊢
        clear hnb
        obtain ⟨B6, hB6⟩ : ∃ B6, wr.heap.size = B6 := ⟨_, rfl⟩
        rw [hB6] at t7 hi1 hi2 hw6
        clear hB6
        go_wp2_with fail
        go_loopw [11] (fun i wr => ∃ k : Nat, k ≤ nb ∧ i = .int .i64 k ∧ Only (fun b => B6 ≤ b ∧ U8 w7 b) w7 wr ∧ (∀ g, Box8 w7 g → Box8 wr g)) (fun i _ => nb - (intOf i).toNat)
        case atStart => exact ⟨0, Nat.zero_le _, rfl, Only.refl _ _, fun g h => h⟩
        case round =>
          clear e1
          obtain ⟨k, hk, rfl, hO, hbx⟩ := hrel
          rcases Nat.lt_or_ge k nb with hlt | hge
          · have e1 : decide ((k : Int) < (nb : Int)) = true := by rw [decide_eq_true_iff]; omega
            have e2 : (0 : Int) ≤ (k : Int) := by omega
            have e3 : (k : Int) < (nb : Int) := by omega
            obtain ⟨bb, g, cc, rfl, q1, q2, q3, q4, q5, q6, q7, q8⟩ := t7 k hlt
            have x0 := (hO.cell (p := ⟨bb, k, none⟩) q1 (fun z => q2 z.2)).trans q3
            obtain ⟨⟨z, y0⟩, f0⟩ := hbx g q8
            have nxt : ∀ v : Int, Only (fun b => B6 ≤ b ∧ U8 w7 b) w7 (wr.setCell ⟨g, 0, none⟩ (.int .u8 v)).drew ∧ (∀ h, Box8 w7 h → Box8 (wr.setCell ⟨g, 0, none⟩ (.int .u8 v)).drew h) := fun v => ⟨(hO.setCell (p := ⟨g, 0, none⟩) (.inl ⟨q5, q7⟩) _).trans (Only.of_below (below_drew0 _) (fun _ => False)) fun _ z => z.elim, fun h hh => (hbx h hh).set (hbx g q8)⟩
            have NXT := Lib.hid nxt
            clear nxt hO hbx
            go_wp2_with fail
            go_region
            all_goals
              go_wp2
              go_roundw
              case rel => exact ⟨k + 1, by omega, by go_num, NXT.out _⟩
              case measure => simp [intOf]; omega
          · obtain rfl : k = nb := by omega
            have e1 : decide ((k : Int) < (k : Int)) = false := by rw [decide_eq_false_iff_not]; omega
            have hD8 := hD7.only hO (fun x q z => by have := hi1 x q; omega) (fun x q z => by have := hi2 x q; omega)
            have bw8 : Below w.heap.size w wr := bw7.trans (hO.below hw7 fun b z => Nat.le_trans hw6 z.1)
            have cA := alike_any hD8 hG (by omega)
            clear hD7 hO hbx t7
            go_wp2_with fail
            refine cA.mono ?_
            rintro e w9 ⟨rfl, b9⟩
            have bw9 := bw8.trans (b9.mono bw8.size)
            clear cA hD8 bw8 b9
            go_wp2
            go_ret
            exact ⟨rfl, bw9⟩
  · obtain rfl := p1n hok
    clear p1 p1n
    go_wp2_with fail
    refine c4.mono ?_
    rintro e w5 ⟨-, p2, b5⟩
    obtain rfl := p2 hok
    have bw5 := bw4.trans (b5.mono bw4.size)
    clear c4 p2 hok b5 bw4 b4 b3 b2 h1 hr1 h2 hr2 o2b r2b o3 r3
    go_wp2
    go_ret
    exact ⟨rfl, bw5⟩
theorem diskOpens_walk (v0 v1 : Value) (w : World) (w0 : IsBlocks w v0) (w1 : IsBlocks w v1) :
    Calls Try.prog 8 #[v0, v1] w fun e w' => e = .returned (.bool true) ∧ Below w.heap.size w w' := by
  obtain ⟨A, c, L, la, rfl, -, -, h1, h2⟩ := w0
  obtain ⟨A', c', L', lb, rfl, -, -, h3, h4⟩ := w1
  exact opens_any A c L la A' c' L' lb w h1 h2 h3 h4
end Go.Proofs.Ytnbbneldbagohaa
