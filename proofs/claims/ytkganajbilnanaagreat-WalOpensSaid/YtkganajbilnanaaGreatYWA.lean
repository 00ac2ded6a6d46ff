/- The log, plain: headers. Conditions: none; no program in sight. -/
import Derived.Test.YtkganajbilnanaaGreatYDiskA
import Derived.Test.YtkganajbilnanaaGreatYRecA
import Derived.Laws.OwnMore
set_option linter.unusedVariables false
set_option linter.unusedSimpArgs false
namespace Go.Proofs.YtkganajbilnanaaGreat
open NumMath
structure HeadP where
  stamp : Nat
  base : Nat
  check : Nat
  area : Nat
def HeadP.Fits (h : HeadP) : Prop := h.stamp < 18446744073709551616 ∧ h.base < 18446744073709551616 ∧ h.check < 18446744073709551616 ∧ h.area < 256
def hsec (h : HeadP) : List Nat := (((putF 8 h.stamp ++ [h.area]) ++ putF 8 h.base) ++ putF 8 h.check) ++ List.replicate 95 0 ++ putF 8 h.stamp
theorem hsec_length (h : HeadP) : (hsec h).length = 128 := by unfold hsec; simp [putF_length]
theorem hsec_small {h : HeadP} (hf : h.Fits) : Small (hsec h) := by
  intro x hx
  unfold hsec at hx
  simp only [List.mem_append, List.mem_singleton, List.mem_replicate] at hx
  rcases hx with ((((hx | rfl) | hx) | hx) | ⟨-, rfl⟩) | hx
  · exact putF_small _ _ x hx
  · exact hf.2.2.2
  · exact putF_small _ _ x hx
  · exact putF_small _ _ x hx
  · decide
  · exact putF_small _ _ x hx
def wheadP (b : List Nat) : HeadP := ⟨getL (b.take 8), getL ((b.drop 9).take 8), getL ((b.drop 17).take 8), b.getD 8 0⟩
def isHead (b : List Nat) : Bool := decide ((wheadP b).stamp ≠ 0) && (decide (((wheadP b).base + 18446744073709551615) % 18446744073709551616 < 9223372036854775808) && (decide ((wheadP b).area < 2) && decide (b = hsec (wheadP b))))
theorem wheadP_hsec {h : HeadP} (hf : h.Fits) : wheadP (hsec h) = h := by
  obtain ⟨s, b, c, a⟩ := h
  obtain ⟨f0, f1, f2, f3⟩ := hf
  have e : hsec ⟨s, b, c, a⟩ = putF 8 s ++ (a :: (putF 8 b ++ (putF 8 c ++ (List.replicate 95 0 ++ putF 8 s)))) := by unfold hsec; simp
  have l8 : ∀ v, (putF 8 v).length = 8 := fun v => putF_length 8 v
  have t8 : ∀ v (r : List Nat), (putF 8 v ++ r).take 8 = putF 8 v := fun v r => List.take_left' (l8 v)
  have d8 : ∀ v (r : List Nat), (putF 8 v ++ r).drop 8 = r := fun v r => List.drop_left' (l8 v)
  have d9 : (hsec ⟨s, b, c, a⟩).drop 9 = putF 8 b ++ (putF 8 c ++ (List.replicate 95 0 ++ putF 8 s)) := by
    rw [e, show 9 = 8 + 1 from rfl, ← List.drop_drop, d8]
    rfl
  have d17 : (hsec ⟨s, b, c, a⟩).drop 17 = putF 8 c ++ (List.replicate 95 0 ++ putF 8 s) := by
    rw [show 17 = 9 + 8 from rfl, ← List.drop_drop, d9, d8]
  have g8 : (hsec ⟨s, b, c, a⟩).getD 8 0 = a := by
    rw [e, List.getD_eq_getElem?_getD, List.getElem?_append_right (by rw [l8]; omega), l8]
    rfl
  unfold wheadP
  rw [d9, d17, g8, t8, t8, e, t8, getL_put, getL_put, getL_put, Nat.mod_eq_of_lt (show s < 256 ^ 8 from f0), Nat.mod_eq_of_lt (show b < 256 ^ 8 from f1), Nat.mod_eq_of_lt (show c < 256 ^ 8 from f2)]
theorem isHead_hsec {h : HeadP} (hf : h.Fits) (h0 : h.stamp ≠ 0) (h1 : 1 ≤ h.base) (h2 : h.base ≤ 9223372036854775808) (h3 : h.area < 2) : isHead (hsec h) = true := by
  unfold isHead
  rw [wheadP_hsec hf, decide_eq_true h0, decide_eq_true h3, decide_eq_true (rfl : hsec h = hsec h), decide_eq_true (by omega)]
  rfl
theorem wheadP_fits {b : List Nat} (hs : Small b) : (wheadP b).Fits := by
  have g : ∀ l : List Nat, Small l → getL (l.take 8) < 18446744073709551616 := fun l hl => by
    have h1 := getL_lt (l.take 8) (fun x hx => hl x (List.mem_of_mem_take hx))
    exact Nat.lt_of_lt_of_le h1 (Nat.le_trans (Nat.pow_le_pow_right (n := 256) (by omega) (show (l.take 8).length ≤ 8 by rw [List.length_take]; omega)) (by decide))
  refine ⟨g b hs, g _ (fun x hx => hs x (List.mem_of_mem_drop hx)), g _ (fun x hx => hs x (List.mem_of_mem_drop hx)), ?_⟩
  show b.getD 8 0 < 256
  rw [List.getD_eq_getElem?_getD]
  rcases hi : b[8]? with _ | x
  · decide
  · exact hs x (List.mem_of_getElem? hi)
theorem splice0 {p news : List Nat} {o n m : Nat} (hp : p.length = o) (hn : news.length = n) : ((p ++ List.replicate (n + m) 0).map byteV).take o ++ (news.map byteV).take n ++ ((p ++ List.replicate (n + m) 0).map byteV).drop (o + n) = ((p ++ news) ++ List.replicate m 0).map byteV := by
  rw [← List.map_take, ← List.map_drop, ← List.map_take, List.take_left' hp, List.take_of_length_le (by omega), ← List.drop_drop, List.drop_left' hp, List.drop_replicate, Nat.add_sub_cancel_left, List.map_append, List.map_append]
end Go.Proofs.YtkganajbilnanaaGreat
namespace Go.Proofs.YtkganajbilnanaaGreat
open Go.ChangeShapes Go.WideShapes Go.ChangeAt Go.RowKit
open NumMath
set_option maxRecDepth 20000
theorem putn_any (n m : Nat) (w : World) (h1 : n < 18446744073709551616) (h2 : 1 ≤ m) (h3 : m ≤ 8) : Calls Tryz.prog 112 #[.int .u64 n, .int .i64 m] w fun e w' => ∃ A c, e = .returned (.slice A m c) ∧ w'.ownsRow w.heap.size 5 1 (.slice A m c) m ((putF m n).map byteV) ∧ Below w.heap.size w w' := by
  have h := put_any n m w h1 (by omega) (by omega)
  have e : putB n m = putF m n := by unfold putB; rw [if_pos ⟨by omega, by omega⟩]; simp
  rw [e] at h
  refine h.mono ?_
  rintro e w' ⟨A, c, he, ho, hb, -⟩
  rw [putF_length] at he ho
  exact ⟨A, c, he, ho, hb⟩
theorem putn8 (n : Nat) (w : World) (h1 : n < 18446744073709551616) : Calls Tryz.prog 112 #[.int .u64 n, .int .i64 8] w fun e w' => ∃ A c, e = .returned (.slice A 8 c) ∧ w'.ownsRow w.heap.size 5 1 (.slice A 8 c) 8 ((putF 8 n).map byteV) ∧ Below w.heap.size w w' := putn_any n 8 w h1 (by omega) (by omega)
theorem splice1 {p : List Nat} {m : Nat} (a : Nat) (hp : p.length = 8) : ((p ++ List.replicate (m + 1) 0).map byteV).set 8 (byteV a) = ((p ++ [a]) ++ List.replicate m 0).map byteV := by
  rw [← List.map_set, ← hp, List.replicate_succ, List.set_append_right _ _ (Nat.le_refl _), Nat.sub_self, List.set_cons_zero, List.append_assoc]
  rfl
theorem u8_sz : (Tryz.prog.info? 5).map (·.size) = some 1 := by kernel_rfl
def headV (h : HeadP) : Array Value := #[.int .u64 (h.stamp : Nat), .int .u64 (h.base : Nat), .int .u64 (h.check : Nat), .int .i64 (h.area : Nat)]
set_option maxHeartbeats 8000000 in
theorem sector_any (h : HeadP) (hf : h.Fits) (w : World) : Calls Tryz.prog 106 #[.agg (headV h)] w (RetBytes 5 (hsec h) w) := by
  obtain ⟨i0, hi0, hz0, hz1, hz2⟩ := info_parts u8_info
  have kb := Blk.new w 79 (headV h)
  have hb := below_alloc w (.cells (headV h) 79)
  have hss := hsec_small hf
  obtain ⟨st, b, c, a⟩ := h
  obtain ⟨f0, f1, f2, f3⟩ := hf
  simp only at f0 f1 f2 f3
  go_enter Tryz.func106, Tryz.ntmps106
  go_upto_region 1 with fail
  generalize World.alloc w _ = W0 at *
  have hg := kb.lt
  have KB : Hid (∀ W, Below W0.heap.size W0 W → W.cell? ⟨w.heap.size, 0, none⟩ = some (.int .u64 (st : Nat)) ∧ W.cell? ⟨w.heap.size, 1, none⟩ = some (.int .u64 (b : Nat)) ∧ W.cell? ⟨w.heap.size, 2, none⟩ = some (.int .u64 (c : Nat)) ∧ W.cell? ⟨w.heap.size, 3, none⟩ = some (.int .i64 (a : Nat))) := Lib.hid fun W hW => by
    have q := kb.below hW hg
    exact ⟨q.cell 0, q.cell 1, q.cell 2, q.cell 3⟩
  have HB := Lib.hid hb
  have HSS := Lib.hid hss
  clear kb hb hss
  go_upto_region 2 with (at_make; refine wpList_make_full _ rfl _ _ 45 rfl W0.heap.size 5 i0 _ 1 Tryz.underlying45 hi0 hz0 hz1 .i64 .i64 _ _ 128 rfl rfl rfl rfl (by rw [hz2]; decide) (by decide) (Nat.le_refl _) ?_; intro w1 hown1 hg1)
  have o1 : w1.ownsRow W0.heap.size 5 1 (.slice (some ⟨W0.heap.size, 0, none⟩) 128 128) 128 (([] ++ List.replicate (8 + 120) 0).map byteV) := by
    have e : (madeCells (Value.int .u8 0).cells (128 * 1)).toList = ([] ++ List.replicate (8 + 120) 0).map byteV := by
      rw [Nat.mul_one, List.nil_append, List.map_replicate]
      exact toList_madeCells_one _ 128
    rw [← e]
    exact hown1
  have b1 : Below W0.heap.size W0 w1 := (Below.refl _ _).grown hg1 (Nat.le_refl _) (by simp)
  obtain ⟨k0, -⟩ := KB.out w1 b1
  have B1 := Lib.hid b1
  clear hown1 hg1 b1
  go_wp2_with fail
  refine (putn_any st 8 w1 f0 (by omega) (by omega)).mono ?_
  rintro e w2 ⟨A2, c2, rfl, p2, b2⟩
  have x2 := own_bytes p2 (putF_small 8 st)
  have o2 := kept_none (below_none b2) o1
  have B2 := Lib.hid (B1.out.trans (b2.mono B1.out.size))
  clear k0 o1 b2 p2
  go_upto_region 3 with (refine wpList_copy_at rfl (.tmp 5) (.tmp 8) 45 45 rfl 5 Tryz.underlying45 u8_sz W0.heap.size W0.heap.size 0 128 128 128 128 _ rfl o2 (by omega) w2.heap.size A2 8 c2 ((putF 8 st).map byteV) rfl (by rw [List.length_map, putF_length]) x2.1 (bytes_oneCell _) ?_; intro w3 o3 hg3)
  replace o3 : w3.ownsRow W0.heap.size 5 1 (.slice (some ⟨W0.heap.size, 0, none⟩) 128 128) 128 ((putF 8 st ++ List.replicate 120 0).map byteV) := by
    have := splice0 (p := []) (news := putF 8 st) (o := 0) (n := 8) (m := 120) rfl (putF_length _ _)
    rw [List.nil_append (putF 8 st)] at this
    rw [← this]
    exact o3
  have b3 : Below W0.heap.size W0 w3 := B2.out.grown hg3 B2.out.size (fun k hk => by injection hk with hk; omega)
  obtain ⟨-, -, -, k3⟩ := KB.out w3 b3
  have va : IntKind.u8.wrap (a : Int) = (a : Int) := by rw [IntKind.wrap_u8]; omega
  have vb : (a : Int) % 256 = (a : Int) := by omega
  have z3 : w3.cell? ⟨W0.heap.size, 8, none⟩ = some (.int .u8 0) := (o3.cellAt 8 (by omega)).trans (by
    rw [List.getElem?_map, List.getElem?_append_right (by rw [putF_length]; omega), putF_length]
    rfl)
  have y3 := o3.frozenAt 8
  have s4 := o3.stored 8 (byteV a)
  have o4 : (w3.setCell ⟨W0.heap.size, 8, none⟩ (.int .u8 (a : Nat))).ownsRow W0.heap.size 5 1 (.slice (some ⟨W0.heap.size, 0, none⟩) 128 128) 128 (((putF 8 st ++ [a]) ++ List.replicate (8 + 111) 0).map byteV) := by
    have := s4.1
    rw [splice1 (p := putF 8 st) (m := 119) a (putF_length _ _)] at this
    exact this
  have b4 : Below W0.heap.size W0 (w3.setCell ⟨W0.heap.size, 8, none⟩ (.int .u8 (a : Nat))) := b3.trans (((Only.refl (fun q => q = W0.heap.size) w3).setCell (p := ⟨W0.heap.size, 8, none⟩) (.inl rfl) _).below b3.size fun q h => by rw [h]; exact Nat.le_refl _)
  have B4 := Lib.hid b4
  have O4 := Lib.hid o4
  clear s4 o4 b4 b3 o2 hg3 x2 o3
  go_upto_region 4 with fail
  generalize World.setCell _ _ _ = w4 at *
  clear z3 y3 k3 va vb
  go_cut [] (fun wz => wz.ownsRow W0.heap.size 5 1 (.slice (some ⟨W0.heap.size, 0, none⟩) 128 128) 128 ((((putF 8 st ++ [a])) ++ putF 8 b ++ List.replicate 111 0).map byteV) ∧ Below W0.heap.size W0 wz)
  case first =>
    obtain ⟨ca, cb, cc, -⟩ := KB.out w4.drew (B4.out.drew)
    have od := kept_none (below_none (below_drew0 w4)) O4.out
    have cp := putn8 b w4.drew f1
    go_wp2_with fail
    go_region_held3 (fun w' => w'.cell? ⟨w.heap.size, 1, none⟩ = some (.int .u64 (b : Nat))) (first | exact cb | exact ke | exact kf | fail) (first
      | ((with_reducible refine cp.mono ?_); rintro e we ⟨Ae, ce, rfl, oe, be⟩; have xe := own_bytes oe (putF_small 8 b); have of_ := kept_none (below_none be) od; have Be : Below W0.heap.size W0 we := (B4.out.drew).trans (be.mono (B4.out.drew).size); have ke := (KB.out we Be).2.1; clear cp)
      | (refine step_copy_at (by rfl) _ _ 45 45 (by rfl) 5 Tryz.underlying45 u8_sz W0.heap.size W0.heap.size 9 119 119 128 128 _ (by rfl) of_ (by omega) we.heap.size Ae 8 ce ((putF 8 b).map byteV) (by rfl) (by rw [List.length_map, putF_length]) xe.1 (bytes_oneCell _) ?_; intro wf owf hgf; have Bf : Below W0.heap.size W0 wf := Be.grown hgf Be.size (fun k hk => by injection hk with hk; omega); have kf := (KB.out wf Bf).2.1)
      | fail)
    all_goals
      have OF := Lib.hid owf
      have BF := Lib.hid Bf
      clear owf Bf Be of_ oe be
      go_wp2
      go_meet
      case rel => exact ⟨by rw [← splice0 (p := (putF 8 st ++ [a])) (news := putF 8 b) (o := 9) (n := 8) (m := 111) (by simp [putF_length]) (putF_length _ _)]; exact OF.out, BF.out⟩
  case rest =>
    obtain ⟨o5, b5⟩ := hcut
    clear B4 O4
    rename World => w5
    have o5' : w5.ownsRow W0.heap.size 5 1 (.slice (some ⟨W0.heap.size, 0, none⟩) 128 128) 128 (((putF 8 st ++ [a] ++ putF 8 b) ++ List.replicate (8 + 103) 0).map byteV) := o5
    have O5 := Lib.hid o5'
    have B5 := Lib.hid b5
    clear o5 b5 o5'
    go_upto_region 5 with fail
    go_cut [] (fun wz => wz.ownsRow W0.heap.size 5 1 (.slice (some ⟨W0.heap.size, 0, none⟩) 128 128) 128 ((((putF 8 st ++ [a] ++ putF 8 b)) ++ putF 8 c ++ List.replicate 103 0).map byteV) ∧ Below W0.heap.size W0 wz)
    case first =>
      obtain ⟨ca, cb, cc, -⟩ := KB.out w5.drew (B5.out.drew)
      have od := kept_none (below_none (below_drew0 w5)) O5.out
      have cp := putn8 c w5.drew f2
      go_wp2_with fail
      go_region_held3 (fun w' => w'.cell? ⟨w.heap.size, 2, none⟩ = some (.int .u64 (c : Nat))) (first | exact cc | exact ke | exact kf | fail) (first
        | ((with_reducible refine cp.mono ?_); rintro e we ⟨Ae, ce, rfl, oe, be⟩; have xe := own_bytes oe (putF_small 8 c); have of_ := kept_none (below_none be) od; have Be : Below W0.heap.size W0 we := (B5.out.drew).trans (be.mono (B5.out.drew).size); have ke := (KB.out we Be).2.2.1; clear cp)
        | (refine step_copy_at (by rfl) _ _ 45 45 (by rfl) 5 Tryz.underlying45 u8_sz W0.heap.size W0.heap.size 17 111 111 128 128 _ (by rfl) of_ (by omega) we.heap.size Ae 8 ce ((putF 8 c).map byteV) (by rfl) (by rw [List.length_map, putF_length]) xe.1 (bytes_oneCell _) ?_; intro wf owf hgf; have Bf : Below W0.heap.size W0 wf := Be.grown hgf Be.size (fun k hk => by injection hk with hk; omega); have kf := (KB.out wf Bf).2.2.1)
        | fail)
      all_goals
        have OF := Lib.hid owf
        have BF := Lib.hid Bf
        clear owf Bf Be of_ oe be
        go_wp2
        go_meet
        case rel => exact ⟨by rw [← splice0 (p := (putF 8 st ++ [a] ++ putF 8 b)) (news := putF 8 c) (o := 17) (n := 8) (m := 103) (by simp [putF_length]) (putF_length _ _)]; exact OF.out, BF.out⟩
    case rest =>
      obtain ⟨o6, b6⟩ := hcut
      clear B5 O5
      rename World => w6
      have o6' : w6.ownsRow W0.heap.size 5 1 (.slice (some ⟨W0.heap.size, 0, none⟩) 128 128) 128 (((putF 8 st ++ [a] ++ putF 8 b ++ putF 8 c ++ List.replicate 95 0) ++ List.replicate (8 + 0) 0).map byteV) := by
        have e : putF 8 st ++ [a] ++ putF 8 b ++ putF 8 c ++ List.replicate 103 0 = (putF 8 st ++ [a] ++ putF 8 b ++ putF 8 c ++ List.replicate 95 0) ++ List.replicate (8 + 0) 0 := by
          rw [List.append_assoc (putF 8 st ++ [a] ++ putF 8 b ++ putF 8 c), List.replicate_append_replicate]
        rw [← e]
        exact o6
      have O6 := Lib.hid o6'
      have B6 := Lib.hid b6
      clear o6 b6 o6'
      go_upto_region 6 with fail
      go_cut [] (fun wz => wz.ownsRow W0.heap.size 5 1 (.slice (some ⟨W0.heap.size, 0, none⟩) 128 128) 128 ((((putF 8 st ++ [a] ++ putF 8 b ++ putF 8 c ++ List.replicate 95 0)) ++ putF 8 st ++ List.replicate 0 0).map byteV) ∧ Below W0.heap.size W0 wz)
      case first =>
        obtain ⟨ca, cb, cc, -⟩ := KB.out w6.drew (B6.out.drew)
        have od := kept_none (below_none (below_drew0 w6)) O6.out
        have cp := putn8 st w6.drew f0
        go_wp2_with fail
        go_region_held3 (fun w' => w'.cell? ⟨w.heap.size, 0, none⟩ = some (.int .u64 (st : Nat))) (first | exact ca | exact ke | exact kf | fail) (first
          | ((with_reducible refine cp.mono ?_); rintro e we ⟨Ae, ce, rfl, oe, be⟩; have xe := own_bytes oe (putF_small 8 st); have of_ := kept_none (below_none be) od; have Be : Below W0.heap.size W0 we := (B6.out.drew).trans (be.mono (B6.out.drew).size); have ke := (KB.out we Be).1; clear cp)
          | (refine step_copy_at (by rfl) _ _ 45 45 (by rfl) 5 Tryz.underlying45 u8_sz W0.heap.size W0.heap.size 120 8 8 128 128 _ (by rfl) of_ (by omega) we.heap.size Ae 8 ce ((putF 8 st).map byteV) (by rfl) (by rw [List.length_map, putF_length]) xe.1 (bytes_oneCell _) ?_; intro wf owf hgf; have Bf : Below W0.heap.size W0 wf := Be.grown hgf Be.size (fun k hk => by injection hk with hk; omega); have kf := (KB.out wf Bf).1)
          | fail)
        all_goals
          have OF := Lib.hid owf
          have BF := Lib.hid Bf
          clear owf Bf Be of_ oe be
          go_wp2
          go_meet
          case rel => exact ⟨by rw [← splice0 (p := (putF 8 st ++ [a] ++ putF 8 b ++ putF 8 c ++ List.replicate 95 0)) (news := putF 8 st) (o := 120) (n := 8) (m := 0) (by simp [putF_length]) (putF_length _ _)]; exact OF.out, BF.out⟩
      case rest =>
        obtain ⟨o7, b7⟩ := hcut
        clear B6 O6
        rename World => w7
        have O7 := Lib.hid o7
        have B7 := Lib.hid b7
        clear o7 b7
        go_wp2
        go_ret
        refine ⟨some ⟨W0.heap.size, 0, none⟩, 128, by rw [hsec_length]; rfl, ?_, HB.out.trans (B7.out.mono HB.out.size), HSS.out⟩
        rw [hsec_length]
        have := O7.out
        rw [List.replicate_zero, List.append_nil] at this
        exact own_base HB.out.size this
def logV (h : HeadP) (dp : Value) (strips slot : Nat) (sv st : Value) (lasts : Nat) : Array Value :=
  #[.int .u64 (h.stamp : Nat), .int .u64 (h.base : Nat), .int .u64 (h.check : Nat), .int .i64 (h.area : Nat), dp, .int .i64 (strips : Nat), .int .i64 (slot : Nat), sv, st, .int .i64 (lasts : Nat)]
section
variable {h : HeadP} {dp sv st : Value} {strips slot lasts gl : Nat} {w : World}
theorem base_any (k : Blk w gl 82 (logV h dp strips slot sv st lasts)) : Calls Tryz.prog 20 #[.pointer (some ⟨gl, 0, none⟩)] w fun e w' => e = .returned (.int .u64 (h.base : Nat)) ∧ w = w' := by
  have c1 : w.cell? ⟨gl, 1, none⟩ = some (.int .u64 (h.base : Nat)) := k.cell 1
  clear k
  go_enter Tryz.func20, Tryz.ntmps20
  go_wp2
  go_ret
  exact ⟨rfl, rfl⟩
theorem lasts_any (k : Blk w gl 82 (logV h dp strips slot sv st lasts)) (hs : h.base + lasts < 18446744073709551616) : Calls Tryz.prog 42 #[.pointer (some ⟨gl, 0, none⟩)] w fun e w' => e = .returned (.int .u64 ((h.base + lasts : Nat) : Int)) ∧ Drew w w' := by
  have c1 : w.cell? ⟨gl, 1, none⟩ = some (.int .u64 (h.base : Nat)) := k.cell 1
  have c9 : w.cell? ⟨gl, 9, none⟩ = some (.int .i64 (lasts : Nat)) := k.cell 9
  generalize h.base = b at *
  have v1 : IntKind.u64.wrap (lasts : Int) = (lasts : Int) := by rw [IntKind.wrap_u64]; omega
  obtain ⟨s, hs'⟩ : ∃ s, b + lasts = s := ⟨_, rfl⟩
  have v2 : IntKind.u64.wrap ((b : Int) + (lasts : Int)) = (s : Int) := by rw [IntKind.wrap_u64]; omega
  rw [hs']
  clear k hs hs'
  go_enter Tryz.func42, Tryz.ntmps42
  go_wp2_with fail
  go_quiet (fail)
  go_wp2
  go_ret
  exact ⟨rfl, _, rfl⟩
theorem end_any {A : Option Addr} {n c : Nat} (k : Blk w gl 82 (logV h dp strips slot (.slice A n c) st lasts)) (hs : h.base + n < 18446744073709551616) : Calls Tryz.prog 17 #[.pointer (some ⟨gl, 0, none⟩)] w fun e w' => e = .returned (.int .u64 ((h.base + n : Nat) : Int)) ∧ Drew w w' := by
  have c1 : w.cell? ⟨gl, 1, none⟩ = some (.int .u64 (h.base : Nat)) := k.cell 1
  have c7 : w.cell? ⟨gl, 7, none⟩ = some (.slice A n c) := k.cell 7
  generalize h.base = b at *
  have v1 : IntKind.u64.wrap (n : Int) = (n : Int) := by rw [IntKind.wrap_u64]; omega
  obtain ⟨s, hs'⟩ : ∃ s, b + n = s := ⟨_, rfl⟩
  have v2 : IntKind.u64.wrap ((b : Int) + (n : Int)) = (s : Int) := by rw [IntKind.wrap_u64]; omega
  rw [hs']
  clear k hs hs'
  go_enter Tryz.func17, Tryz.ntmps17
  go_wp2_with fail
  go_quiet (fail)
  go_wp2
  go_ret
  exact ⟨rfl, _, rfl⟩
theorem check_any (k : Blk w gl 82 (logV h dp strips slot sv st lasts)) : Calls Tryz.prog 44 #[.pointer (some ⟨gl, 0, none⟩)] w fun e w' => e = .returned (.int .u64 (h.check : Nat)) ∧ w = w' := by
  have c2 : w.cell? ⟨gl, 2, none⟩ = some (.int .u64 (h.check : Nat)) := k.cell 2
  clear k
  go_enter Tryz.func44, Tryz.ntmps44
  go_wp2
  go_ret
  exact ⟨rfl, rfl⟩
theorem room_any (k : Blk w gl 82 (logV h dp strips slot sv st lasts)) (hs : strips ≤ 100000) : Calls Tryz.prog 68 #[.pointer (some ⟨gl, 0, none⟩)] w fun e w' => e = .returned (.int .i64 ((strips * 127 : Nat) : Int)) ∧ w = w' := by
  have c5 : w.cell? ⟨gl, 5, none⟩ = some (.int .i64 (strips : Nat)) := k.cell 5
  obtain ⟨s, hs'⟩ : ∃ s, strips * 127 = s := ⟨_, rfl⟩
  have v2 : IntKind.i64.wrap ((strips : Int) * 127) = (s : Int) := by rw [IntKind.wrap_i64]; omega
  rw [hs']
  clear k hs hs'
  go_enter Tryz.func68, Tryz.ntmps68
  go_wp2
  go_ret
  exact ⟨rfl, rfl⟩
theorem Room_any {A : Option Addr} {n c : Nat} (k : Blk w gl 82 (logV h dp strips slot (.slice A n c) st lasts)) (hs : strips ≤ 100000) (hn : n ≤ strips * 127) : Calls Tryz.prog 18 #[.pointer (some ⟨gl, 0, none⟩)] w fun e w' => e = .returned (.int .u64 ((strips * 127 - n : Nat) : Int)) ∧ Drew w w' := by
  have c7 : w.cell? ⟨gl, 7, none⟩ = some (.slice A n c) := k.cell 7
  have cr := fun m => room_any (k.drewN m) hs
  obtain ⟨s, hs'⟩ : ∃ s, strips * 127 = s := ⟨_, rfl⟩
  simp only [hs'] at cr
  rw [hs'] at hn ⊢
  obtain ⟨d, hd⟩ : ∃ d, s - n = d := ⟨_, rfl⟩
  have v1 : IntKind.i64.wrap ((s : Int) - (n : Int)) = (d : Int) := by rw [IntKind.wrap_i64]; omega
  have v2 : IntKind.u64.wrap (d : Int) = (d : Int) := by rw [IntKind.wrap_u64]; omega
  rw [hd]
  clear k hs hs' hd hn
  go_enter Tryz.func18, Tryz.ntmps18
  go_wp2_with fail
  go_quiet (first | (go_at_call 68; exact Calls.quiet_of_same ((cr _).mono fun _ _ hh => ⟨hh.1, hh.2.symm⟩)) | fail)
  go_wp2
  go_ret
  exact ⟨rfl, _, rfl⟩
theorem first_any (k : Blk w gl 82 (logV h dp strips slot sv st lasts)) (hs : strips ≤ 100000) (a : Nat) (ha : a < 2) : Calls Tryz.prog 26 #[.pointer (some ⟨gl, 0, none⟩), .int .i64 (a : Nat)] w fun e w' => e = .returned (.int .i64 ((2 + a * strips : Nat) : Int)) ∧ w = w' := by
  have c5 : w.cell? ⟨gl, 5, none⟩ = some (.int .i64 (strips : Nat)) := k.cell 5
  obtain ⟨s, hs'⟩ : ∃ s, 2 + strips = s := ⟨_, rfl⟩
  have v2 : IntKind.i64.wrap (2 + (strips : Int)) = (s : Int) := by rw [IntKind.wrap_i64]; omega
  have HS := Lib.hid hs'
  clear k hs hs'
  have ix0 : ∀ w, (Instr.index 116 (.agg #[.int .i64 2, .int .i64 (s : Nat)]) (.int .i64 0)).run Tryz.prog w = .ok (.int .i64 2) w := fun _ => by kernel_rfl
  have ix1 : ∀ w, (Instr.index 116 (.agg #[.int .i64 2, .int .i64 (s : Nat)]) (.int .i64 1)).run Tryz.prog w = .ok (.int .i64 (s : Nat)) w := fun _ => by kernel_rfl
  rcases (show a = 0 ∨ a = 1 by omega) with rfl | rfl
  · go_enter Tryz.func26, Tryz.ntmps26
    go_wp2
    go_ret
    exact ⟨by rw [Nat.zero_mul]; rfl, rfl⟩
  · go_enter Tryz.func26, Tryz.ntmps26
    go_wp2
    go_ret
    exact ⟨by rw [Nat.one_mul, HS.out]; rfl, rfl⟩
end
end Go.Proofs.YtkganajbilnanaaGreat
namespace Go.Proofs.YtkganajbilnanaaGreat
structure LogP where
  h : HeadP
  strips : Nat
  slot : Nat
  stream : List Nat
  starts : List Nat
  lasts : Nat
def zsec : List Nat := List.replicate 128 0
def wantAt (want : List (List Nat)) (i : Nat) : List Nat := want[i]?.getD zsec
def makeN (D : DevP) (p : Nat) (want : List (List Nat)) : Nat → DevP × Bool
  | 0 => (D, false)
  | i + 1 =>
    let s := makeN D p want i
    if (s.1.read 0 ((p + i : Nat) : Int)).1 = wantAt want i then s else ((s.1.write 0 ((p + i : Nat) : Int) (wantAt want i)).2, true)
def makeP (D : DevP) (p n : Nat) (want : List (List Nat)) : DevP := if (makeN D p want n).2 = true then (makeN D p want n).1.sync 0 else (makeN D p want n).1
theorem makeN_good {D : DevP} {N : Nat} (h : D.good N) (p : Nat) (want : List (List Nat)) : ∀ n, (makeN D p want n).1.good (N + n)
  | 0 => h
  | n + 1 => by
    have ih := makeN_good h p want n
    unfold makeN
    dsimp only
    split
    · exact ih.mono (by omega)
    · exact ih.write 0 _ _
theorem makeP_good {D : DevP} {N : Nat} (h : D.good N) (p n : Nat) (want : List (List Nat)) : (makeP D p n want).good (N + n) := by
  unfold makeP
  split
  · exact (makeN_good h p want n).sync 0
  · exact makeN_good h p want n
def sayL (L : LogP) : LogP := { L with h := { L.h with stamp := (L.h.stamp + 1) % 18446744073709551616 }, slot := 1 - L.slot }
def sayD (L : LogP) (D : DevP) : DevP := ((D.write 0 (((sayL L).slot : Nat) : Int) (hsec (sayL L).h)).2).sync 0
theorem sayD_good {L : LogP} {D : DevP} {N : Nat} (h : D.good N) : (sayD L D).good (N + 1) := (h.write 0 _ _).sync 0
def findStep (D : DevP) (slot : Nat) (s : HeadP × Nat) : HeadP × Nat :=
  let b := (D.read 0 (slot : Int)).1
  if isHead b = true ∧ s.1.stamp < (wheadP b).stamp then (wheadP b, slot) else s
def findP (D : DevP) : HeadP × Nat := findStep D 1 (findStep D 0 (⟨0, 0, 0, 0⟩, 0))
end Go.Proofs.YtkganajbilnanaaGreat
namespace Go.Proofs.YtkganajbilnanaaGreat
open Go.ChangeShapes Go.WideShapes Go.ChangeAt Go.RowKit
open NumMath
set_option maxRecDepth 20000
def placeV (l : List Nat) : List Value := l.map fun n => .int .i64 (n : Nat)
def behindP (starts : List Nat) (n k : Nat) : Nat := starts[k + 1]?.getD n
theorem behind_any {h : HeadP} {dp : Value} {strips slot lasts gl : Nat} {w : World} {A As : Option Addr} {n c cs : Nat} {starts : List Nat} (B : Nat) (k : Nat)
    (kb : Blk w gl 82 (logV h dp strips slot (.slice A n c) (.slice As starts.length cs) lasts)) (hs : At w B As (placeV starts)) (hk : k ≤ 1000000) :
    Calls Tryz.prog 103 #[.pointer (some ⟨gl, 0, none⟩), .int .i64 (k : Nat)] w fun e w' => e = .returned (.int .i64 (behindP starts n k : Nat)) ∧ w = w' := by
  have c7 : w.cell? ⟨gl, 7, none⟩ = some (.slice A n c) := kb.cell 7
  have c8 : w.cell? ⟨gl, 8, none⟩ = some (.slice As starts.length cs) := kb.cell 8
  obtain ⟨q, hq⟩ : ∃ q, k + 1 = q := ⟨_, rfl⟩
  have v1 : IntKind.i64.wrap ((k : Int) + 1) = (q : Int) := by rw [IntKind.wrap_i64]; omega
  obtain ⟨m, hm⟩ : ∃ m, starts.length = m := ⟨_, rfl⟩
  have HP : Hid (behindP starts n k = starts[q]?.getD n) := Lib.hid (by unfold behindP; rw [hq])
  rcases Nat.lt_or_ge q m with hlt | hge
  · have hql : q < starts.length := by omega
    obtain ⟨b, o, hA, hb, hc⟩ := hs q (by unfold placeV; rw [List.length_map]; exact hql)
    have e1 : decide ((q : Int) < (m : Int)) = true := by rw [decide_eq_true_iff]; omega
    have e2 : (0 : Int) ≤ (q : Int) := by omega
    have e3 : (q : Int) < (m : Int) := by omega
    unfold placeV at hc
    rw [List.getElem_map] at hc
    have hx : starts[q]?.getD n = starts[q] := by rw [List.getElem?_eq_getElem hql]; rfl
    rw [hm] at c8
    rw [hA] at c8
    generalize starts[q] = x at *
    have HX := Lib.hid hx
    clear hx hA hs kb hq hm hql
    go_enter Tryz.func103, Tryz.ntmps103
    go_wp2
    go_ret
    exact ⟨by rw [HP.out, HX.out]; rfl, rfl⟩
  · have e1 : decide ((q : Int) < (m : Int)) = false := by rw [decide_eq_false_iff_not]; omega
    have u1 : ¬ (q < m) := by omega
    have hx : starts[q]?.getD n = n := by rw [List.getElem?_eq_none (by omega)]; rfl
    have HX := Lib.hid hx
    rw [hm] at c8
    clear hx hs kb hq hm
    go_enter Tryz.func103, Tryz.ntmps103
    go_wp2
    go_ret
    exact ⟨by rw [HP.out, HX.out]; rfl, rfl⟩
theorem nan1_any (x : Nat) (w : World) : Calls Tryz.prog 141 #[.int .i64 (x : Nat)] w fun e w' => e = .returned (.bool false) ∧ w = w' := by
  have t : ((x : Int) != (x : Int)) = false := by simp
  go_enter Tryz.func141, Tryz.ntmps141
  go_wp2
  go_ret
  exact ⟨rfl, rfl⟩
theorem nan2_any (x : Nat) (w : World) : Calls Tryz.prog 138 #[.int .i64 (x : Nat)] w fun e w' => e = .returned (.bool false) ∧ w = w' := by
  have t : ((x : Int) != (x : Int)) = false := by simp
  go_enter Tryz.func138, Tryz.ntmps138
  go_wp2
  go_ret
  exact ⟨rfl, rfl⟩
theorem less_any (x y : Nat) (w : World) : Calls Tryz.prog 137 #[.int .i64 (x : Nat), .int .i64 (y : Nat)] w fun e w' => e = .returned (.bool (decide (x < y))) ∧ w = w' := by
  have c := nan1_any x w
  rcases Nat.lt_or_ge x y with z | z
  · have t : decide ((x : Int) < (y : Int)) = true := by rw [decide_eq_true_iff]; omega
    rw [decide_eq_true z]
    go_enter Tryz.func137, Tryz.ntmps137
    go_wp2_with fail
    refine c.mono ?_
    rintro e w2 ⟨rfl, rfl⟩
    clear c
    go_wp2
    go_ret
    exact ⟨rfl, rfl⟩
  · have t : decide ((x : Int) < (y : Int)) = false := by rw [decide_eq_false_iff_not]; omega
    have u : ¬ (x < y) := by omega
    rw [decide_eq_false u]
    go_enter Tryz.func137, Tryz.ntmps137
    go_wp2_with fail
    refine c.mono ?_
    rintro e w2 ⟨rfl, rfl⟩
    clear c
    go_wp2
    go_ret
    exact ⟨rfl, rfl⟩
def SearchPost (l : List Nat) (x : Nat) (w : World) (e : Ending) (w' : World) : Prop :=
  (∃ (i : Nat) (b : Bool), e = .returned (.tuple #[.int .i64 (i : Nat), .bool b]) ∧ i ≤ l.length ∧ (∀ (t y : Nat), l[t]? = some y → (t < i → y < x) ∧ (i ≤ t → x ≤ y)) ∧ (b = true ↔ l[i]? = some x)) ∧ w = w'
set_option maxHeartbeats 4000000 in
theorem bsearch_any (A : Option Addr) (c : Nat) (l : List Nat) (B : Nat) (w : World) (h : At w B A (placeV l)) (hm : ∀ (s t a b : Nat), s ≤ t → l[s]? = some a → l[t]? = some b → a ≤ b) (hl : l.length ≤ 100000) (x : Nat) :
    Calls Tryz.prog 128 #[.slice A l.length c, .int .i64 (x : Nat)] w (SearchPost l x w) := by
  obtain ⟨n, hn⟩ : ∃ n, l.length = n := ⟨_, rfl⟩
  have HN := Lib.hid hn
  rw [hn] at hl ⊢
  have H := Lib.hid h
  have HM := Lib.hid hm
  clear hn h hm
  go_enter Tryz.func128, Tryz.ntmps128
  go_wp2_with fail
  go_loopw [7, 8, 9] (fun iv jv _ wr => ∃ i j : Nat, i ≤ j ∧ j ≤ n ∧ iv = .int .i64 (i : Nat) ∧ jv = .int .i64 (j : Nat) ∧ w = wr ∧ (∀ (t y : Nat), l[t]? = some y → (t < i → y < x) ∧ (j ≤ t → x ≤ y))) (fun iv jv _ _ => (intOf jv).toNat - (intOf iv).toNat)
  case atStart => exact ⟨0, n, Nat.zero_le _, Nat.le_refl _, rfl, rfl, rfl, fun t y hy => ⟨fun q => absurd q (by omega), fun q => by
    have := (List.getElem?_eq_some_iff.1 hy).1
    have := HN.out
    omega⟩⟩
  case round =>
    obtain ⟨i, j, hij, hjn, rfl, rfl, rfl, hall⟩ := hrel
    have HALL := Lib.hid hall
    clear hall
    rcases Nat.lt_or_ge i j with hlt | hge
    · have e1 : decide ((i : Int) < (j : Int)) = true := by rw [decide_eq_true_iff]; omega
      obtain ⟨s, hs⟩ : ∃ s, i + j = s := ⟨_, rfl⟩
      obtain ⟨m, hmm⟩ : ∃ m, s / 2 = m := ⟨_, rfl⟩
      have v1 : IntKind.i64.wrap ((i : Int) + (j : Int)) = (s : Int) := by rw [IntKind.wrap_i64]; omega
      have v2 : IntKind.u64.wrap (s : Int) = (s : Int) := by rw [IntKind.wrap_u64]; omega
      have v3 : (s : Int) / 2 = (m : Int) := by omega
      have v4 : wrap64 (m : Int) = (m : Int) := by
        unfold wrap64
        omega
      have hmn : m < n := by omega
      have e2 : (0 : Int) ≤ (m : Int) := by omega
      have e3 : (m : Int) < (n : Int) := by omega
      have v5 : IntKind.i64.wrap ((m : Int) + 1) = ((m + 1 : Nat) : Int) := by rw [IntKind.wrap_i64]; omega
      have him : i ≤ m ∧ m < j := by omega
      have hml : m < l.length := by rw [HN.out]; exact hmn
      obtain ⟨b, o, hA, hb, hc⟩ := H.out m (by unfold placeV; rw [List.length_map]; exact hml)
      unfold placeV at hc
      rw [List.getElem_map] at hc
      have hg : l[m]? = some l[m] := List.getElem?_eq_getElem hml
      generalize l[m] = y at *
      have HG := Lib.hid hg
      have HIM := Lib.hid him
      have cl := less_any y x w
      have HA := Lib.hid hA
      rw [hA]
      clear hs hmm hml hg him hA
      go_wp2_with fail
      refine cl.mono ?_
      rintro e w2 ⟨rfl, rfl⟩
      clear cl
      by_cases hyx : y < x
      · have HY := Lib.hid hyx
        rw [decide_eq_true hyx]
        clear hyx
        go_wp2
        go_roundw
        case rel => exact ⟨m + 1, j, by have := HIM.out; omega, hjn, by go_num, rfl, (by trivial), fun t z hz => ⟨fun q => Nat.lt_of_le_of_lt (HM.out t m z y (by omega) hz HG.out) HY.out, (HALL.out t z hz).2⟩⟩
        case measure => have := HIM.out; simp [intOf]; omega
      · have HY := Lib.hid hyx
        rw [decide_eq_false hyx]
        clear hyx
        go_wp2
        go_roundw
        case rel => exact ⟨i, m, HIM.out.1, by omega, rfl, rfl, (by trivial), fun t z hz => ⟨(HALL.out t z hz).1, fun q => Nat.le_trans (Nat.le_of_not_lt HY.out) (HM.out m t y z q HG.out hz)⟩⟩
        case measure => have := HIM.out; simp [intOf]; omega
    · obtain rfl : i = j := by omega
      have e1 : decide ((i : Int) < (i : Int)) = false := by rw [decide_eq_false_iff_not]; omega
      by_cases hin : i < n
      · have e2 : decide ((i : Int) < (n : Int)) = true := by rw [decide_eq_true_iff]; omega
        have e3 : (0 : Int) ≤ (i : Int) := by omega
        have e4 : (i : Int) < (n : Int) := by omega
        have hil : i < l.length := by rw [HN.out]; exact hin
        obtain ⟨b, o, hA, hb, hc⟩ := H.out i (by unfold placeV; rw [List.length_map]; exact hil)
        unfold placeV at hc
        rw [List.getElem_map] at hc
        have hg : l[i]? = some l[i] := List.getElem?_eq_getElem hil
        generalize l[i] = y at *
        have HG := Lib.hid hg
        have cn := nan2_any y w
        rw [hA]
        by_cases hxy : y = x
        · subst hxy
          have t5 : ((y : Int) == (y : Int)) = true := by simp
          have F : Hid (SearchPost l y w (.returned (.tuple #[.int .i64 (i : Nat), .bool true])) w) := Lib.hid ⟨⟨i, true, rfl, Nat.le_of_lt hil, HALL.out, ⟨fun _ => hg, fun _ => rfl⟩⟩, rfl⟩
          clear hil hg hA hge cn
          go_wp2
          go_ret2
          exact F.out
        · have t5 : ((y : Int) == (x : Int)) = false := by rw [beq_eq_false_iff_ne]; omega
          have F : Hid (SearchPost l x w (.returned (.tuple #[.int .i64 (i : Nat), .bool false])) w) := Lib.hid ⟨⟨i, false, rfl, Nat.le_of_lt hil, HALL.out, ⟨fun q => (by cases q), fun q => absurd (Option.some.inj (hg.symm.trans q)) hxy⟩⟩, rfl⟩
          clear hil hg hA hge hxy
          go_wp2_with fail
          refine cn.mono ?_
          rintro e w2 ⟨rfl, rfl⟩
          clear cn
          go_wp2
          go_ret2
          exact F.out
      · have e2 : decide ((i : Int) < (n : Int)) = false := by rw [decide_eq_false_iff_not]; omega
        have F : Hid (SearchPost l x w (.returned (.tuple #[.int .i64 (i : Nat), .bool false])) w) := Lib.hid ⟨⟨i, false, rfl, by rw [HN.out]; exact hjn, HALL.out, ⟨fun q => (by cases q), fun q => by
          have := (List.getElem?_eq_some_iff.1 q).1
          have := HN.out
          omega⟩⟩, rfl⟩
        clear hge
        go_wp2
        go_ret2
        exact F.out
def cntP (l : List Nat) (x : Nat) : Nat := l.countP fun y => decide (y < x)
theorem cnt_eq {l : List Nat} {x i : Nat} (hi : i ≤ l.length) (h : ∀ (t y : Nat), l[t]? = some y → (t < i → y < x) ∧ (i ≤ t → x ≤ y)) : cntP l x = i := by
  have h1 : (l.take i).countP (fun y => decide (y < x)) = i := by
    rw [List.countP_eq_length.2, List.length_take, Nat.min_eq_left hi]
    intro y hy
    obtain ⟨t, ht, rfl⟩ := List.mem_iff_getElem.1 hy
    rw [List.length_take] at ht
    rw [List.getElem_take]
    exact decide_eq_true ((h t _ (List.getElem?_eq_getElem (by omega))).1 (by omega))
  have h2 : (l.drop i).countP (fun y => decide (y < x)) = 0 := by
    rw [List.countP_eq_zero]
    intro y hy
    obtain ⟨t, ht, rfl⟩ := List.mem_iff_getElem.1 hy
    rw [List.length_drop] at ht
    rw [List.getElem_drop]
    have := (h (i + t) _ (List.getElem?_eq_getElem (by omega))).2 (by omega)
    simp
    omega
  unfold cntP
  conv => lhs; rw [← List.take_append_drop i l]
  rw [List.countP_append, h1, h2, Nat.add_zero]
theorem bsearch_is (A : Option Addr) (c : Nat) (l : List Nat) (B : Nat) (w : World) (h : At w B A (placeV l)) (hm : ∀ (s t a b : Nat), s ≤ t → l[s]? = some a → l[t]? = some b → a ≤ b) (hl : l.length ≤ 100000) (x : Nat) :
    Calls Tryz.prog 128 #[.slice A l.length c, .int .i64 (x : Nat)] w fun e w' => e = .returned (.tuple #[.int .i64 (cntP l x : Nat), .bool (decide (l[cntP l x]? = some x))]) ∧ w = w' := by
  refine (bsearch_any A c l B w h hm hl x).mono ?_
  rintro e w' ⟨⟨i, b, rfl, hi, hall, hb⟩, rfl⟩
  have e1 := cnt_eq hi hall
  rw [e1]
  have e2 : decide (l[i]? = some x) = b := by
    rw [Bool.eq_iff_iff, decide_eq_true_iff]
    exact hb.symm
  rw [e2]
  exact ⟨rfl, rfl⟩
def AtPost (base n : Nat) (starts : List Nat) (lsn : Nat) (w : World) (e : Ending) (w' : World) : Prop :=
  (∃ (i : Nat) (b : Bool), e = .returned (.tuple #[.int .i64 (i : Nat), .bool b]) ∧
    ((lsn < base ∧ i = 0 ∧ b = false) ∨ (base ≤ lsn ∧ base + n ≤ lsn ∧ i = starts.length ∧ b = false) ∨
     (base ≤ lsn ∧ lsn < base + n ∧ i = cntP starts (lsn - base) ∧ b = decide (starts[cntP starts (lsn - base)]? = some (lsn - base))))) ∧ Drew w w'
set_option maxHeartbeats 4000000 in
theorem at_any {h : HeadP} {dp : Value} {strips slot lasts gl : Nat} {w : World} {A As : Option Addr} {n c cs : Nat} {starts : List Nat} (B : Nat)
    (kb : Blk w gl 82 (logV h dp strips slot (.slice A n c) (.slice As starts.length cs) lasts)) (hs : At w B As (placeV starts)) (hm : ∀ (s t a b : Nat), s ≤ t → starts[s]? = some a → starts[t]? = some b → a ≤ b) (hl : starts.length ≤ 100000)
    (hn : h.base + n < 18446744073709551616) (hn2 : n ≤ 100000000) (lsn : Nat) (hlsn : lsn < 18446744073709551616) :
    Calls Tryz.prog 100 #[.pointer (some ⟨gl, 0, none⟩), .int .u64 (lsn : Nat)] w (AtPost h.base n starts lsn w) := by
  have c1 : w.cell? ⟨gl, 1, none⟩ = some (.int .u64 (h.base : Nat)) := kb.cell 1
  have c8 : w.cell? ⟨gl, 8, none⟩ = some (.slice As starts.length cs) := kb.cell 8
  have ce := end_any kb hn
  generalize h.base = b at *
  obtain ⟨s, hs'⟩ : ∃ s, b + n = s := ⟨_, rfl⟩
  rw [hs'] at ce hn
  have HS := Lib.hid hs'
  rcases Nat.lt_or_ge lsn b with z | z
  · have t1 : decide ((lsn : Int) < (b : Int)) = true := by rw [decide_eq_true_iff]; omega
    have F : Hid (AtPost b n starts lsn w (.returned (.tuple #[.int .i64 ((0 : Nat) : Int), .bool false])) w) := Lib.hid ⟨⟨0, false, rfl, .inl ⟨z, rfl, rfl⟩⟩, Drew.refl _⟩
    clear ce hs' hs kb hm
    go_enter Tryz.func100, Tryz.ntmps100
    go_wp2
    go_ret2
    exact F.out
  have t1 : decide ((lsn : Int) < (b : Int)) = false := by rw [decide_eq_false_iff_not]; omega
  have u1 : ¬ (lsn < b) := by omega
  rcases Nat.lt_or_ge lsn s with z2 | z2
  rotate_left
  · have t2 : decide ((s : Int) ≤ (lsn : Int)) = true := by rw [decide_eq_true_iff]; omega
    have F : Hid (∀ W, Drew w W → AtPost b n starts lsn w (.returned (.tuple #[.int .i64 (starts.length : Nat), .bool false])) W) := Lib.hid fun W hd => ⟨⟨_, false, rfl, .inr (.inl ⟨z, by omega, rfl, rfl⟩)⟩, hd⟩
    have C8 : Hid (∀ W, Drew w W → W.cell? ⟨gl, 8, none⟩ = some (.slice As starts.length cs)) := Lib.hid fun W hd => by obtain ⟨m, rfl⟩ := hd; exact c8
    generalize starts.length = m at *
    clear hs' hs kb hm c8
    go_enter Tryz.func100, Tryz.ntmps100
    go_wp2_with fail
    refine ce.mono ?_
    rintro e w2 ⟨rfl, hd⟩
    have c8 := C8.out w2 hd
    have FF := Lib.hid (F.out w2 hd)
    clear ce hd F
    go_wp2
    go_ret2
    exact FF.out
  · have t2 : decide ((s : Int) ≤ (lsn : Int)) = false := by rw [decide_eq_false_iff_not]; omega
    have u2 : ¬ (s ≤ lsn) := by omega
    obtain ⟨x, hx⟩ : ∃ x, lsn - b = x := ⟨_, rfl⟩
    have v1 : IntKind.u64.wrap ((lsn : Int) - (b : Int)) = (x : Int) := by rw [IntKind.wrap_u64]; omega
    have v2 : IntKind.i64.wrap (x : Int) = (x : Int) := by rw [IntKind.wrap_i64]; omega
    have v3 : wrap64 (x : Int) = (x : Int) := by unfold wrap64; omega
    have cb : Hid (∀ W, Drew w W → ∀ q, Calls Tryz.prog 128 #[.slice As starts.length cs, .int .i64 (x : Nat)] (W.drewN q) fun e w' => e = .returned (.tuple #[.int .i64 (cntP starts x : Nat), .bool (decide (starts[cntP starts x]? = some x))]) ∧ W.drewN q = w') := Lib.hid fun W hd q => by
      obtain ⟨m, rfl⟩ := hd
      exact bsearch_is As cs starts B ((w.drewN m).drewN q) (fun j hj => hs j hj) hm hl x
    have C8 : Hid (∀ W, Drew w W → W.cell? ⟨gl, 8, none⟩ = some (.slice As starts.length cs) ∧ W.cell? ⟨gl, 1, none⟩ = some (.int .u64 (b : Nat))) := Lib.hid fun W hd => by obtain ⟨m, rfl⟩ := hd; exact ⟨c8, c1⟩
    have F : Hid (∀ W, Drew w W → AtPost b n starts lsn w (.returned (.tuple #[.int .i64 (cntP starts x : Nat), .bool (decide (starts[cntP starts x]? = some x))])) W) := Lib.hid fun W hd => by
      exact ⟨⟨_, _, rfl, .inr (.inr ⟨z, by omega, by rw [hx], by rw [hx]⟩)⟩, hd⟩
    generalize (cntP starts x : Nat) = i at *
    generalize decide (starts[i]? = some x) = bb at *
    generalize starts.length = m at *
    clear hs' hs kb hm c8 hx
    go_enter Tryz.func100, Tryz.ntmps100
    go_wp2_with fail
    refine ce.mono ?_
    rintro e w2 ⟨rfl, hd⟩
    obtain ⟨c8, c1'⟩ := C8.out w2 hd
    have FF := Lib.hid (fun q => F.out _ (hd.more q))
    have cb2 := cb.out w2 hd
    clear ce hd F c1
    go_wp2_with fail
    go_quiet (first | (go_at_call 128; exact Calls.quiet_of_same ((cb2 _).mono fun _ _ hh => ⟨hh.1, hh.2.symm⟩)) | fail)
    go_wp2
    go_ret2
    exact FF.out _
theorem equal_any (A A' : Option Addr) (c c' : Nat) (l m : List Nat) (B : Nat) (w : World) (hl : Bytes w B A l) (hm : Bytes w B A' m) :
    Calls Tryz.prog 78 #[.slice A l.length c, .slice A' m.length c'] w fun e w' => e = .returned (.bool (decide (l = m))) ∧ w = w' := by
  have h1 := run_bytes_str (P := Tryz.prog) hl 45 9 5 Tryz.underlying45 Tryz.underlying5 Tryz.underlying9 c
  have h2 := run_bytes_str (P := Tryz.prog) hm 45 9 5 Tryz.underlying45 Tryz.underlying5 Tryz.underlying9 c'
  have h3 := strB_beq hl.2 hm.2
  go_enter Tryz.func78, Tryz.ntmps78
  go_wp2
  go_ret
  exact ⟨rfl, rfl⟩
end Go.Proofs.YtkganajbilnanaaGreat
