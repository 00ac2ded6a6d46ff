/- wal: a header as a sector. Conditions: its numbers fit. -/
import Derived.Test.YtkganajbilnanaaWWalM
import Derived.Test.YtkganajbilnanaaWDiskB
import Derived.Test.YtkganajbilnanaaWRecA
import Derived.Laws.OwnMore
namespace Go.Proofs.Ytkganajbilnanaa
open Go.ChangeShapes Go.WideShapes Go.ChangeAt Go.RowKit
open NumMath
set_option linter.unusedVariables false
set_option linter.unusedSimpArgs false
set_option maxRecDepth 20000

theorem putn_any (n m : Nat) (w : World) (h1 : n < 18446744073709551616) (h2 : 1 ≤ m) (h3 : m ≤ 8) : Calls Try.prog 54 #[.int .u64 n, .int .i64 m] w fun e w' => ∃ A c, e = .returned (.slice A m c) ∧ w'.ownsRow w.heap.size 5 1 (.slice A m c) m ((putF m n).map byteV) ∧ Below w.heap.size w w' := by
  have h := put_any n m w h1 (by omega) (by omega)
  have e : putB n m = putF m n := by unfold putB; rw [if_pos ⟨by omega, by omega⟩]; simp
  rw [e] at h
  refine h.mono ?_
  rintro e w' ⟨A, c, he, ho, hb, -⟩
  rw [putF_length] at he ho
  exact ⟨A, c, he, ho, hb⟩
theorem putn8 (n : Nat) (w : World) (h1 : n < 18446744073709551616) : Calls Try.prog 54 #[.int .u64 n, .int .i64 8] w fun e w' => ∃ A c, e = .returned (.slice A 8 c) ∧ w'.ownsRow w.heap.size 5 1 (.slice A 8 c) 8 ((putF 8 n).map byteV) ∧ Below w.heap.size w w' := putn_any n 8 w h1 (by omega) (by omega)
theorem splice1 {p : List Nat} {m : Nat} (a : Nat) (hp : p.length = 8) : ((p ++ List.replicate (m + 1) 0).map byteV).set 8 (byteV a) = ((p ++ [a]) ++ List.replicate m 0).map byteV := by
  rw [← List.map_set, ← hp, List.replicate_succ, List.set_append_right _ _ (Nat.le_refl _), Nat.sub_self, List.set_cons_zero, List.append_assoc]
  rfl
theorem u8_sz : (Try.prog.info? 5).map (·.size) = some 1 := by kernel_rfl
def headV (h : HeadP) : Array Value := #[.int .u64 (h.stamp : Nat), .int .u64 (h.base : Nat), .int .u64 (h.check : Nat), .int .i64 (h.area : Nat)]
set_option maxHeartbeats 8000000 in
theorem sector_any (h : HeadP) (hf : h.Fits) (w : World) : Calls Try.prog 68 #[.agg (headV h)] w (RetBytes 5 (hsec h) w) := by
  obtain ⟨i0, hi0, hz0, hz1, hz2⟩ := info_parts u8_info
  have kb := Blk.new w 72 (headV h)
  have hb := below_alloc w (.cells (headV h) 72)
  have hss := hsec_small hf
  obtain ⟨st, b, c, a⟩ := h
  obtain ⟨f0, f1, f2, f3⟩ := hf
  simp only at f0 f1 f2 f3
  go_enter Try.func68, Try.ntmps68
  go_upto_region 1 with fail
  generalize World.alloc w _ = W0 at *
  have hg := kb.lt
  have KB : Hid (∀ W, Below W0.heap.size W0 W → W.cell? ⟨w.heap.size, 0, none⟩ = some (.int .u64 (st : Nat)) ∧ W.cell? ⟨w.heap.size, 1, none⟩ = some (.int .u64 (b : Nat)) ∧ W.cell? ⟨w.heap.size, 2, none⟩ = some (.int .u64 (c : Nat)) ∧ W.cell? ⟨w.heap.size, 3, none⟩ = some (.int .i64 (a : Nat))) := Lib.hid fun W hW => by
    have q := kb.below hW hg
    exact ⟨q.cell 0, q.cell 1, q.cell 2, q.cell 3⟩
  have HB := Lib.hid hb
  have HSS := Lib.hid hss
  clear kb hb hss
  go_upto_region 2 with (at_make; refine wpList_make_full _ rfl _ _ 26 rfl W0.heap.size 5 i0 _ 1 Try.underlying26 hi0 hz0 hz1 .i64 .i64 _ _ 128 rfl rfl rfl rfl (by rw [hz2]; decide) (by decide) (Nat.le_refl _) ?_; intro w1 hown1 hg1)
  have o1 : w1.ownsRow W0.heap.size 5 1 (.slice (some ⟨W0.heap.size, 0, none⟩) 128 128) 128 (([] ++ List.replicate (8 + 120) 0).map byteV) := by
    have e : (madeCells (Value.int .u8 0).cells (128 * 1)).toList = ([] ++ List.replicate (8 + 120) 0).map byteV := by
      rw [Nat.mul_one, List.nil_append, List.map_replicate]
      exact toList_madeCells_one _ 128
    rw [← e]
    exact hown1
  have b1 : Below W0.heap.size W0 w1 := (Below.refl _ _).grown hg1 (Nat.le_refl _) (by simp)
  obtain ⟨k0, -⟩ := KB.out w1 b1
  have B1 := Lib.hid b1
  clear hown1 hg1 b1
  go_wp2_with fail
  refine (putn_any st 8 w1 f0 (by omega) (by omega)).mono ?_
  rintro e w2 ⟨A2, c2, rfl, p2, b2⟩
  have x2 := own_bytes p2 (putF_small 8 st)
  have o2 := kept_none (below_none b2) o1
  have B2 := Lib.hid (B1.out.trans (b2.mono B1.out.size))
  clear k0 o1 b2 p2
  go_upto_region 3 with (refine wpList_copy_at rfl (.tmp 5) (.tmp 8) 26 26 rfl 5 Try.underlying26 u8_sz W0.heap.size W0.heap.size 0 128 128 128 128 _ rfl o2 (by omega) w2.heap.size A2 8 c2 ((putF 8 st).map byteV) rfl (by rw [List.length_map, putF_length]) x2.1 (bytes_oneCell _) ?_; intro w3 o3 hg3)
  replace o3 : w3.ownsRow W0.heap.size 5 1 (.slice (some ⟨W0.heap.size, 0, none⟩) 128 128) 128 ((putF 8 st ++ List.replicate 120 0).map byteV) := by
    have := splice0 (p := []) (news := putF 8 st) (o := 0) (n := 8) (m := 120) rfl (putF_length _ _)
    rw [List.nil_append (putF 8 st)] at this
    rw [← this]
    exact o3
  have b3 : Below W0.heap.size W0 w3 := B2.out.grown hg3 B2.out.size (fun k hk => by injection hk with hk; omega)
  obtain ⟨-, -, -, k3⟩ := KB.out w3 b3
  have va : IntKind.u8.wrap (a : Int) = (a : Int) := by rw [IntKind.wrap_u8]; omega
  have vb : (a : Int) % 256 = (a : Int) := by omega
  have z3 : w3.cell? ⟨W0.heap.size, 8, none⟩ = some (.int .u8 0) := (o3.cellAt 8 (by omega)).trans (by
    rw [List.getElem?_map, List.getElem?_append_right (by rw [putF_length]; omega), putF_length]
    rfl)
  have y3 := o3.frozenAt 8
  have s4 := o3.stored 8 (byteV a)
  have o4 : (w3.setCell ⟨W0.heap.size, 8, none⟩ (.int .u8 (a : Nat))).ownsRow W0.heap.size 5 1 (.slice (some ⟨W0.heap.size, 0, none⟩) 128 128) 128 (((putF 8 st ++ [a]) ++ List.replicate (8 + 111) 0).map byteV) := by
    have := s4.1
    rw [splice1 (p := putF 8 st) (m := 119) a (putF_length _ _)] at this
    exact this
  have b4 : Below W0.heap.size W0 (w3.setCell ⟨W0.heap.size, 8, none⟩ (.int .u8 (a : Nat))) := b3.trans (((Only.refl (fun q => q = W0.heap.size) w3).setCell (p := ⟨W0.heap.size, 8, none⟩) (.inl rfl) _).below b3.size fun q h => by rw [h]; exact Nat.le_refl _)
  have B4 := Lib.hid b4
  have O4 := Lib.hid o4
  clear s4 o4 b4 b3 o2 hg3 x2 o3
  go_upto_region 4 with fail
  generalize World.setCell _ _ _ = w4 at *
  clear z3 y3 k3 va vb
  go_cut [] (fun wz => wz.ownsRow W0.heap.size 5 1 (.slice (some ⟨W0.heap.size, 0, none⟩) 128 128) 128 ((((putF 8 st ++ [a])) ++ putF 8 b ++ List.replicate 111 0).map byteV) ∧ Below W0.heap.size W0 wz)
  case first =>
    obtain ⟨ca, cb, cc, -⟩ := KB.out w4.drew (B4.out.drew)
    have od := kept_none (below_none (below_drew0 w4)) O4.out
    have cp := putn8 b w4.drew f1
    go_wp2_with fail
    go_region_held3 (fun w' => w'.cell? ⟨w.heap.size, 1, none⟩ = some (.int .u64 (b : Nat))) (first | exact cb | exact ke | exact kf | fail) (first
      | ((with_reducible refine cp.mono ?_); rintro e we ⟨Ae, ce, rfl, oe, be⟩; have xe := own_bytes oe (putF_small 8 b); have of_ := kept_none (below_none be) od; have Be : Below W0.heap.size W0 we := (B4.out.drew).trans (be.mono (B4.out.drew).size); have ke := (KB.out we Be).2.1; clear cp)
      | (refine step_copy_at (by rfl) _ _ 26 26 (by rfl) 5 Try.underlying26 u8_sz W0.heap.size W0.heap.size 9 119 119 128 128 _ (by rfl) of_ (by omega) we.heap.size Ae 8 ce ((putF 8 b).map byteV) (by rfl) (by rw [List.length_map, putF_length]) xe.1 (bytes_oneCell _) ?_; intro wf owf hgf; have Bf : Below W0.heap.size W0 wf := Be.grown hgf Be.size (fun k hk => by injection hk with hk; omega); have kf := (KB.out wf Bf).2.1)
      | fail)
    all_goals
      have OF := Lib.hid owf
      have BF := Lib.hid Bf
      clear owf Bf Be of_ oe be
      go_wp2
      go_meet
      case rel => exact ⟨by rw [← splice0 (p := (putF 8 st ++ [a])) (news := putF 8 b) (o := 9) (n := 8) (m := 111) (by simp [putF_length]) (putF_length _ _)]; exact OF.out, BF.out⟩
  case rest =>
    obtain ⟨o5, b5⟩ := hcut
    clear B4 O4
    rename World => w5
    have o5' : w5.ownsRow W0.heap.size 5 1 (.slice (some ⟨W0.heap.size, 0, none⟩) 128 128) 128 (((putF 8 st ++ [a] ++ putF 8 b) ++ List.replicate (8 + 103) 0).map byteV) := o5
    have O5 := Lib.hid o5'
    have B5 := Lib.hid b5
    clear o5 b5 o5'
    go_upto_region 5 with fail
    go_cut [] (fun wz => wz.ownsRow W0.heap.size 5 1 (.slice (some ⟨W0.heap.size, 0, none⟩) 128 128) 128 ((((putF 8 st ++ [a] ++ putF 8 b)) ++ putF 8 c ++ List.replicate 103 0).map byteV) ∧ Below W0.heap.size W0 wz)
    case first =>
      obtain ⟨ca, cb, cc, -⟩ := KB.out w5.drew (B5.out.drew)
      have od := kept_none (below_none (below_drew0 w5)) O5.out
      have cp := putn8 c w5.drew f2
      go_wp2_with fail
      go_region_held3 (fun w' => w'.cell? ⟨w.heap.size, 2, none⟩ = some (.int .u64 (c : Nat))) (first | exact cc | exact ke | exact kf | fail) (first
        | ((with_reducible refine cp.mono ?_); rintro e we ⟨Ae, ce, rfl, oe, be⟩; have xe := own_bytes oe (putF_small 8 c); have of_ := kept_none (below_none be) od; have Be : Below W0.heap.size W0 we := (B5.out.drew).trans (be.mono (B5.out.drew).size); have ke := (KB.out we Be).2.2.1; clear cp)
        | (refine step_copy_at (by rfl) _ _ 26 26 (by rfl) 5 Try.underlying26 u8_sz W0.heap.size W0.heap.size 17 111 111 128 128 _ (by rfl) of_ (by omega) we.heap.size Ae 8 ce ((putF 8 c).map byteV) (by rfl) (by rw [List.length_map, putF_length]) xe.1 (bytes_oneCell _) ?_; intro wf owf hgf; have Bf : Below W0.heap.size W0 wf := Be.grown hgf Be.size (fun k hk => by injection hk with hk; omega); have kf := (KB.out wf Bf).2.2.1)
        | fail)
      all_goals
        have OF := Lib.hid owf
        have BF := Lib.hid Bf
        clear owf Bf Be of_ oe be
        go_wp2
        go_meet
        case rel => exact ⟨by rw [← splice0 (p := (putF 8 st ++ [a] ++ putF 8 b)) (news := putF 8 c) (o := 17) (n := 8) (m := 103) (by simp [putF_length]) (putF_length _ _)]; exact OF.out, BF.out⟩
    case rest =>
      obtain ⟨o6, b6⟩ := hcut
      clear B5 O5
      rename World => w6
      have o6' : w6.ownsRow W0.heap.size 5 1 (.slice (some ⟨W0.heap.size, 0, none⟩) 128 128) 128 (((putF 8 st ++ [a] ++ putF 8 b ++ putF 8 c ++ List.replicate 95 0) ++ List.replicate (8 + 0) 0).map byteV) := by
        have e : putF 8 st ++ [a] ++ putF 8 b ++ putF 8 c ++ List.replicate 103 0 = (putF 8 st ++ [a] ++ putF 8 b ++ putF 8 c ++ List.replicate 95 0) ++ List.replicate (8 + 0) 0 := by
          rw [List.append_assoc (putF 8 st ++ [a] ++ putF 8 b ++ putF 8 c), List.replicate_append_replicate]
        rw [← e]
        exact o6
      have O6 := Lib.hid o6'
      have B6 := Lib.hid b6
      clear o6 b6 o6'
      go_upto_region 6 with fail
      go_cut [] (fun wz => wz.ownsRow W0.heap.size 5 1 (.slice (some ⟨W0.heap.size, 0, none⟩) 128 128) 128 ((((putF 8 st ++ [a] ++ putF 8 b ++ putF 8 c ++ List.replicate 95 0)) ++ putF 8 st ++ List.replicate 0 0).map byteV) ∧ Below W0.heap.size W0 wz)
      case first =>
        obtain ⟨ca, cb, cc, -⟩ := KB.out w6.drew (B6.out.drew)
        have od := kept_none (below_none (below_drew0 w6)) O6.out
        have cp := putn8 st w6.drew f0
        go_wp2_with fail
        go_region_held3 (fun w' => w'.cell? ⟨w.heap.size, 0, none⟩ = some (.int .u64 (st : Nat))) (first | exact ca | exact ke | exact kf | fail) (first
          | ((with_reducible refine cp.mono ?_); rintro e we ⟨Ae, ce, rfl, oe, be⟩; have xe := own_bytes oe (putF_small 8 st); have of_ := kept_none (below_none be) od; have Be : Below W0.heap.size W0 we := (B6.out.drew).trans (be.mono (B6.out.drew).size); have ke := (KB.out we Be).1; clear cp)
          | (refine step_copy_at (by rfl) _ _ 26 26 (by rfl) 5 Try.underlying26 u8_sz W0.heap.size W0.heap.size 120 8 8 128 128 _ (by rfl) of_ (by omega) we.heap.size Ae 8 ce ((putF 8 st).map byteV) (by rfl) (by rw [List.length_map, putF_length]) xe.1 (bytes_oneCell _) ?_; intro wf owf hgf; have Bf : Below W0.heap.size W0 wf := Be.grown hgf Be.size (fun k hk => by injection hk with hk; omega); have kf := (KB.out wf Bf).1)
          | fail)
        all_goals
          have OF := Lib.hid owf
          have BF := Lib.hid Bf
          clear owf Bf Be of_ oe be
          go_wp2
          go_meet
          case rel => exact ⟨by rw [← splice0 (p := (putF 8 st ++ [a] ++ putF 8 b ++ putF 8 c ++ List.replicate 95 0)) (news := putF 8 st) (o := 120) (n := 8) (m := 0) (by simp [putF_length]) (putF_length _ _)]; exact OF.out, BF.out⟩
      case rest =>
        obtain ⟨o7, b7⟩ := hcut
        clear B6 O6
        rename World => w7
        have O7 := Lib.hid o7
        have B7 := Lib.hid b7
        clear o7 b7
        go_wp2
        go_ret
        refine ⟨some ⟨W0.heap.size, 0, none⟩, 128, by rw [hsec_length]; rfl, ?_, HB.out.trans (B7.out.mono HB.out.size), HSS.out⟩
        rw [hsec_length]
        have := O7.out
        rw [List.replicate_zero, List.append_nil] at this
        exact own_base HB.out.size this
end Go.Proofs.Ytkganajbilnanaa
