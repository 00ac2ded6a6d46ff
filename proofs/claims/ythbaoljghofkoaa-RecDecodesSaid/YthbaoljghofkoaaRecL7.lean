/- RecDecodes: the law's walk. Conditions: the bytes lie there. -/
import Derived.Test.YthbaoljghofkoaaRecL2
import Derived.Test.YthbaoljghofkoaaRecFd
namespace Go.Proofs.Ythbaoljghofkoaa
open Go.ChangeShapes Go.WideShapes Go.ChangeAt Go.RowKit
open NumMath
set_option linter.unusedVariables false
set_option linter.unusedSimpArgs false
set_option maxRecDepth 20000

theorem decN_take {l : List Nat} {p : Nat} (h : 2 ≤ p) : decN (l.take p) = decN l := by
  unfold decN
  rw [List.take_take, Nat.min_eq_left h]
theorem numB_decN {l : List Nat} (h : 2 ≤ l.length) : numB l 0 2 = decN l := by
  unfold numB decN
  rw [← (part_at (l := l) (m := l.take 2) (rest := l.drop 2) (p := 0) (n := 2) (by rw [List.drop_zero, List.take_append_drop]) (by rw [List.length_take]; omega)).1]
/-- both answers of Decode are alike -/
def BothPost (l : List Nat) (r s : RecP) (n e n' e' : Nat) : Prop := r = s ∧ n = n' ∧ e = e'
set_option maxHeartbeats 16000000 in
theorem recDecodes_walk (v0 : Value) (w : World) (w0 : IsBytes w v0) :
    Calls Try.prog 4 #[v0] w fun e w' => e = .returned (.bool true) ∧ Below w.heap.size w w' := by
  obtain ⟨A, c, l, rfl, hlc, hcm, hl⟩ := w0
  clear hcm
  obtain ⟨n, hn⟩ : ∃ n, l.length = n := ⟨_, rfl⟩
  rw [hn] at hlc ⊢
  have HN := Lib.hid hn
  clear hn
  have kn := known_any w
  go_enter Try.func4, Try.ntmps4
  rcases Nat.lt_or_ge 3000 n with z | z
  · have t1 : decide ((3000 : Int) < (n : Int)) = true := by rw [decide_eq_true_iff]; omega
    go_wp2_with fail
    refine kn.mono ?_
    rintro e w3 ⟨rfl, b3⟩
    clear kn
    go_wp2
    go_ret
    exact ⟨rfl, b3⟩
  have t1 : decide ((3000 : Int) < (n : Int)) = false := by rw [decide_eq_false_iff_not]; omega
  go_wp2_with fail
  refine kn.mono ?_
  rintro e w1 ⟨rfl, b1⟩
  have B1 := Lib.hid b1
  have hl1 := (hl.below b1).more b1.size
  have cl := lent_any A c l w1.heap.size w1 hl1 (by rw [HN.out]; omega)
  have HL1 := Lib.hid hl1
  rw [HN.out] at cl
  clear kn b1 t1 hl hl1
  go_wp2_with fail
  refine cl.mono ?_
  rintro e w2 ⟨A2, c2, rfl, o2, b2⟩
  have B2 := Lib.hid (B1.out.trans (b2.mono B1.out.size))
  have by2 := own_bytes o2 HL1.out.2
  have hc2 := own_cap' o2
  have hl2 := (HL1.out.below b2).more b2.size
  have cd := decode_any (c := c2) by2 (by rw [HN.out]; exact hc2) (by rw [HN.out]; omega)
  rw [HN.out] at cd
  have HO2 := Lib.hid by2
  have HL2 := Lib.hid hl2
  clear cl o2 b2 by2 hc2 hl2
  go_wp2_with fail
  refine cd.mono ?_
  rintro e w3 ⟨b3, he⟩
  -- what Decode answers, as one
  have ANS : ∃ (r : RecP) (m : RecMm) (q x : Nat), e = .returned (.tuple #[.agg (recA r m), .int .i64 (q : Nat), .int .u16 (x : Nat)]) ∧ RecFrom w2.heap.size w3 r m ∧ x < 100 ∧ q ≤ 65536 * 65536 ∧
      ((x = 60 ∧ q = 0 ∧ r = recZ ∧ (l.length < 27 ∨ decN l = 0 ∨ l.length < decN l)) ∨ (27 ≤ l.length ∧ 1 ≤ decN l ∧ decN l ≤ l.length ∧ ((x = 61 ∧ q = 0 ∧ r = recZ ∧ readP (l.take (decN l)) = none) ∨ (x = 0 ∧ q = decN l ∧ readP (l.take (decN l)) = some r)))) := by
    have hz : RecFrom w2.heap.size w3 recZ memZ := fun W hW => ⟨⟨Bytes.nil _ _ _, Bytes.nil _ _ _, Nat.le_refl _, Nat.le_refl _, chgZ0_fits⟩, (fun j hj => absurd hj (by simp [recZ])), (fun j hj => absurd hj (by simp [recZ])), ⟨by decide, by decide, by decide, by decide, chgZ0_fits, (fun x hx => by cases hx), (fun x hx => by cases hx)⟩⟩
    rcases he with ⟨h, rfl⟩ | ⟨h1, h2, h3, ⟨h, rfl⟩ | ⟨r, m, h, rfl, hF⟩⟩
    · exact ⟨recZ, memZ, 0, 60, rfl, hz, by decide, by decide, .inl ⟨rfl, rfl, rfl, h⟩⟩
    · exact ⟨recZ, memZ, 0, 61, rfl, hz, by decide, by decide, .inr ⟨h1, h2, h3, .inl ⟨rfl, rfl, rfl, h⟩⟩⟩
    · exact ⟨r, m, decN l, 0, rfl, hF, by decide, by have := HN.out; omega, .inr ⟨h1, h2, h3, .inr ⟨rfl, rfl, h⟩⟩⟩
  clear he
  obtain ⟨r, m, q, x, rfl, hF, hx100, hq64, hA⟩ := ANS
  have HA := Lib.hid hA
  have HF := Lib.hid hF
  have st := store_rec_new w3 r m
  have k4 := Blk.new w3 31 (recA r m)
  have ba := below_alloc w3 (.cells (recA r m) 31)
  have hR4 := hF.at_.below ba
  have B4 := Lib.hid (B2.out.trans ((b3.trans (ba.mono b3.size)).mono B2.out.size))
  have HB24 := Lib.hid (b3.trans (ba.mono b3.size))
  have hw34 : w3.heap.size ≤ (w3.alloc (.cells (recA r m) 31)).heap.size := ba.size
  clear cd hA hF b3 ba
  go_upto_region 5 with (refine wpList_store_run rfl 31 (.tmp 4) (.tmp 23) _ _ rfl rfl rfl st ?_; clear st)
  generalize World.alloc w3 _ = w4 at *
  have hl4 := (HL2.out.below HB24.out).more HB24.out.size
  have ce := refdecode_any (c := c) hl4 (by rw [HN.out]; exact hlc) (by rw [HN.out]; omega)
  rw [HN.out] at ce
  have HR4 := Lib.hid hR4
  have HK4 := Lib.hid k4
  have hg4 := k4.lt
  generalize w3.heap.size = g3 at *
  clear hR4 k4 hl4
  go_wp2_with fail
  refine ce.mono ?_
  rintro e w5 ⟨b5, he⟩
  have ANS : ∃ (s : RecP) (k : RecMm), e = .returned (.tuple #[.agg (recA s k), .int .i64 (q : Nat), .int .i64 (x : Nat)]) ∧ RecFrom w4.heap.size w5 s k ∧ s = r := by
    have hz : RecFrom w4.heap.size w5 recZ memZ := fun W hW => ⟨⟨Bytes.nil _ _ _, Bytes.nil _ _ _, Nat.le_refl _, Nat.le_refl _, chgZ0_fits⟩, (fun j hj => absurd hj (by simp [recZ])), (fun j hj => absurd hj (by simp [recZ])), ⟨by decide, by decide, by decide, by decide, chgZ0_fits, (fun x hx => by cases hx), (fun x hx => by cases hx)⟩⟩
    have hA := HA.out
    rcases he with ⟨h, rfl⟩ | ⟨h1, h2, h3, h⟩
    · rcases hA with ⟨rfl, rfl, rfl, -⟩ | ⟨g1, g2, g3, -⟩
      · exact ⟨recZ, memZ, rfl, hz, rfl⟩
      · rw [numB_decN (by omega)] at h
        omega
    · rw [numB_decN (by omega)] at h h2 h3
      rcases hA with ⟨rfl, rfl, rfl, g⟩ | ⟨-, -, -, hA⟩
      · omega
      have hsm : Small (l.take (decN l)) := fun y hy => HL2.out.2 y (List.mem_of_mem_take hy)
      have hlen : (l.take (decN l)).length = decN l := by rw [List.length_take]; omega
      rcases hA with ⟨rfl, rfl, rfl, g⟩ | ⟨rfl, rfl, g⟩
      · have hd2 : 2 ≤ decN l ∨ decN l = 1 := by omega
        rcases h with ⟨h, rfl⟩ | ⟨h4, h5, k, rfl, hF⟩
        · exact ⟨recZ, memZ, rfl, hz, rfl⟩
        · exfalso
          have := readP_enc h4 (hF.at_.fits)
          rw [h5, g] at this
          cases this
      · have h2' := (readP_inv g hsm).2.2
        have hdd : decN (l.take (decN l)) = (l.take (decN l)).length := by
          rw [hlen]
          rw [hlen] at h2'
          rw [decN_take h2']
        obtain ⟨p1, -⟩ := parse_law hsm hdd
        obtain ⟨e1, e2, e3⟩ := p1 r g HF.out.at_.fits
        rcases h with ⟨h, rfl⟩ | ⟨h4, h5, k, rfl, hF⟩
        · exfalso
          rw [e1] at h
          exact h ⟨e2, e3⟩
        · rw [e1] at hF ⊢
          exact ⟨r, k, rfl, hF, rfl⟩
  clear he
  obtain ⟨s, k, rfl, hF5, hsr⟩ := ANS
  subst hsr
  have st := store_rec_new w5 s k
  have k6 := Blk.new w5 31 (recA s k)
  have ba := below_alloc w5 (.cells (recA s k) 31)
  have hS6 := hF5.at_.below ba
  have hw56 : w5.heap.size ≤ (w5.alloc (.cells (recA s k) 31)).heap.size := ba.size
  have HB46 := Lib.hid (b5.trans (ba.mono b5.size))
  have B6 := Lib.hid (B4.out.trans ((b5.trans (ba.mono b5.size)).mono B4.out.size))
  clear ce hF5 b5 ba
  go_upto_region 6 with (refine wpList_store_run rfl 31 (.tmp 7) (.tmp 29) _ _ rfl rfl rfl st ?_; clear st)
  generalize World.alloc w5 _ = w6 at *
  have hz6 : w4.heap.size ≤ w6.heap.size := HB46.out.size
  have ld1 := load_rec (HK4.out.below HB46.out hg4)
  have ld2 := load_rec k6
  have hlens : s.txns.length ≤ 100000 ∧ s.pages.length ≤ 100000 := by
    rcases HA.out with ⟨-, -, rfl, -⟩ | ⟨-, -, -, ⟨-, -, rfl, -⟩ | ⟨-, -, g⟩⟩
    · exact ⟨by decide, by decide⟩
    · exact ⟨by decide, by decide⟩
    · have h := okR_lens (readP_inv g (fun y hy => HL2.out.2 y (List.mem_of_mem_take hy))).1
      omega
  have cc := same_rec s s m k w6.heap.size w6 ((HR4.out.below (HB46.out.mono hw34)).more (Nat.le_trans hw34 hz6)) (hS6.more hw56) (Nat.le_refl _) hlens.1 hlens.2
  have CB : Hid (∀ W, Below w6.heap.size w6 W → Calls Try.prog 14 #[.slice A2 n c2, .slice A n c] W fun e w' => e = .returned (.bool true) ∧ W = w') := Lib.hid fun W hW => by
    have h26 : Below w2.heap.size w2 W := HB24.out.trans ((HB46.out.trans (hW.mono HB46.out.size)).mono HB24.out.size)
    have := same_any A2 A c2 c l l w2.heap.size W (HO2.out.below h26) (HL2.out.below h26)
    rwa [decide_eq_true (rfl : l = l), HN.out] at this
  have vx : IntKind.i64.wrap (x : Int) = (x : Int) := by rw [IntKind.wrap_i64]; omega
  clear HA HF HR4 HK4 hS6 k6 hlens
  go_wp2_with (first | (refine wpList_load_run_g (by rfl) 31 (.tmp 4) _ _ rfl rfl ld1 ?_; clear ld1) | (refine wpList_load_run_g (by rfl) 31 (.tmp 7) _ _ rfl rfl ld2 ?_; clear ld2) | fail)
  refine cc.mono ?_
  rintro e w7 ⟨⟨y, rfl, hy⟩, b7⟩
  obtain rfl : y = true := hy.2 rfl
  have cb := CB.out w7 b7
  have F := Lib.hid (B6.out.trans (b7.mono B6.out.size))
  clear cc b7 hy CB
  go_wp2_with fail
  refine cb.mono ?_
  rintro e w8 ⟨rfl, rfl⟩
  clear cb
  go_wp2
  go_ret
  exact ⟨rfl, F.out⟩
end Go.Proofs.Ythbaoljghofkoaa
