/- RecOnly: the law's walk. Conditions: the bytes lie there. -/
import Derived.Test.YthbaoljghofkoaaRecL2
import Derived.Test.YthbaoljghofkoaaRecTn
import Derived.Laws.OwnMore
namespace Go.Proofs.Ythbaoljghofkoaa
open Go.ChangeShapes Go.WideShapes Go.ChangeAt Go.RowKit
open NumMath
set_option linter.unusedVariables false
set_option linter.unusedSimpArgs false
set_option maxRecDepth 20000

set_option maxHeartbeats 16000000 in
theorem recOnly_walk (v0 v1 v2 : Value) (w : World) (w0 : IsBytes w v0) (w1 : IsInt .i64 w v1) (w2 : IsInt .u8 w v2) :
    Calls Try.prog 6 #[v0, v1, v2] w fun e w' => e = .returned (.bool true) ∧ Below w.heap.size w w' := by
  obtain ⟨A, c, l, rfl, hlc, hcm, hl⟩ := w0
  obtain ⟨a, rfl, ha⟩ := w1
  obtain ⟨y', rfl, hy⟩ := w2
  have := wf_u8 hy
  obtain ⟨y, rfl⟩ : ∃ y : Nat, y' = y := ⟨y'.toNat, by omega⟩
  have hy : y < 256 := by omega
  clear hcm ha this
  obtain ⟨n, hn⟩ : ∃ n, l.length = n := ⟨_, rfl⟩
  rw [hn] at hlc ⊢
  have HN := Lib.hid hn
  clear hn
  have kn := known_any w
  go_enter Try.func6, Try.ntmps6
  rcases Nat.lt_or_ge 3000 n with z | z
  · have t1 : decide ((3000 : Int) < (n : Int)) = true := by rw [decide_eq_true_iff]; omega
    go_wp2_with fail
    refine kn.mono ?_
    rintro e w3 ⟨rfl, b3⟩
    clear kn
    go_wp2
    go_ret
    exact ⟨rfl, b3⟩
  have t1 : decide ((3000 : Int) < (n : Int)) = false := by rw [decide_eq_false_iff_not]; omega
  go_wp2_with fail
  refine kn.mono ?_
  rintro e w1 ⟨rfl, b1⟩
  have B1 := Lib.hid b1
  have hl1 := (hl.below b1).more b1.size
  have cd := decode_any (c := c) hl1 (by rw [HN.out]; exact hlc) (by rw [HN.out]; omega)
  have HL1 := Lib.hid hl1
  rw [HN.out] at cd
  clear kn b1 t1 hl hl1
  go_wp2_with fail
  refine cd.mono ?_
  rintro e w2 ⟨b2, he⟩
  have B2 := Lib.hid (B1.out.trans (b2.mono B1.out.size))
  have HB2 := Lib.hid b2
  clear cd b2
  have NO : ∀ q : Nat, (q = 60 ∨ q = 61) → e = .returned (.tuple #[.agg (recA recZ memZ), .int .i64 0, .int .u16 (q : Nat)]) → e = .returned (.tuple #[.agg (recA recZ memZ), .int .i64 0, .int .u16 (q : Nat)]) := fun _ _ h => h
  rcases he with ⟨-, rfl⟩ | ⟨h27, hd1, hd2, ⟨-, rfl⟩ | ⟨r, m, hr, rfl, hF⟩⟩
  · clear NO
    have st := store_rec_new w2 recZ memZ
    have F := Lib.hid (B2.out.trans ((below_alloc w2 (.cells (recA recZ memZ) 31)).mono B2.out.size))
    go_wp2_with (refine wpList_store_run rfl 31 (.tmp 7) (.tmp 28) _ _ rfl rfl rfl st ?_; clear st)
    go_ret
    exact ⟨rfl, F.out⟩
  · clear NO
    have st := store_rec_new w2 recZ memZ
    have F := Lib.hid (B2.out.trans ((below_alloc w2 (.cells (recA recZ memZ) 31)).mono B2.out.size))
    go_wp2_with (refine wpList_store_run rfl 31 (.tmp 7) (.tmp 28) _ _ rfl rfl rfl st ?_; clear st)
    go_ret
    exact ⟨rfl, F.out⟩
  clear NO
  have hsl : Small l := HL1.out.2
  obtain ⟨N, hN⟩ : ∃ N, decN l = N := ⟨_, rfl⟩
  rw [hN] at hr hd1 hd2 ⊢
  rw [HN.out] at hd2
  have hsE : Small (l.take N) := fun x hx => hsl x (List.mem_of_mem_take hx)
  have hEl : (l.take N).length = N := by rw [List.length_take, HN.out]; omega
  obtain ⟨hok, -, h2E⟩ := readP_inv hr hsE
  rw [hEl] at h2E
  have hdE : decN (l.take N) = N := by rw [decN, List.take_take, Nat.min_eq_left h2E]; exact hN
  have henc := enc_readP hr hsE (by rw [hdE, hEl])
  have hbl := bodyL_length hok
  have hN27 : 27 ≤ N := by
    rw [← hEl, henc, encL_length]; omega
  obtain ⟨E, hE⟩ : ∃ E, l.take N = E := ⟨_, rfl⟩
  rw [hE] at hr hsE hEl hdE henc
  have HE := Lib.hid hE
  have st := store_rec_new w2 r m
  have k3 := Blk.new w2 31 (recA r m)
  have b3 := below_alloc w2 (.cells (recA r m) 31)
  have hR3 := hF.at_.below b3
  have B3 := Lib.hid (B2.out.trans (b3.mono B2.out.size))
  have hl3 := HL1.out.below (HB2.out.trans (b3.mono HB2.out.size))
  have hwl : w1.heap.size ≤ w2.heap.size := HB2.out.size
  have hw23 : w2.heap.size ≤ (w2.alloc (.cells (recA r m) 31)).heap.size := b3.size
  clear hF b3 hE hbl h2E HL1 hsl hN
  go_upto_region 6 with (refine wpList_store_run rfl 31 (.tmp 7) (.tmp 28) _ _ rfl rfl rfl st ?_; clear st)
  generalize World.alloc w2 _ = w3 at *
  have ld := load_rec k3
  have ce := encode_any r m w2.heap.size w3 hR3 hw23
  clear k3 hR3
  go_wp2_with (refine wpList_load_run rfl 31 (.tmp 7) _ _ rfl rfl ld ?_; clear ld)
  refine ce.mono ?_
  rintro e w4 ⟨b4, ⟨-, A1, c1, rfl, o1⟩ | ⟨hno, -⟩⟩
  rotate_left
  · rw [hok] at hno
    cases hno
  rw [← henc, hEl] at o1
  rw [← henc, hEl]
  have B4 := Lib.hid (B3.out.trans (b4.mono B3.out.size))
  have hl4 := (hl3.below (b4.mono (Nat.le_trans hwl hw23))).take N
  rw [HE.out] at hl4
  have cs := same_any A1 A c1 c E E w4.heap.size w4 (own_bytes o1 hsE) (hl4.more (Nat.le_trans (Nat.le_trans hwl hw23) b4.size))
  rw [decide_eq_true (rfl : E = E), hEl] at cs
  have t2 : decide ((n : Int) < (N : Int)) = false := by rw [decide_eq_false_iff_not]; omega
  have s1 : (N : Int) ≤ (c : Int) := by omega
  have s0 : (0 : Int) ≤ (N : Int) := by omega
  have hbase := b4.size
  clear ce b4 hl3 hl4 henc
  go_wp2_with fail
  refine cs.mono ?_
  rintro e w5 ⟨rfl, rfl⟩
  clear cs t2 s1 s0
  go_upto_region 9 with fail
  obtain ⟨M, hM⟩ : ∃ M, N = M + 2 := ⟨N - 2, by omega⟩
  have PP : ∃ p : Nat, p < M ∧ (((a < 0) = True ∧ (0 ≤ a) = False ∧ p = 0) ∨ ∃ q : Nat, a = q ∧ (q : Int) % (M : Int) = (p : Int) ∧ Int.tmod (q : Int) (M : Int) = (p : Int)) := by
    by_cases z : a < 0
    · exact ⟨0, by omega, .inl ⟨eq_true z, eq_false (by omega), rfl⟩⟩
    · refine ⟨a.toNat % M, Nat.mod_lt _ (by omega), .inr ⟨a.toNat, by omega, ?_, ?_⟩⟩
      · omega
      · rw [Int.tmod_eq_emod_of_nonneg (by omega)]; omega
  obtain ⟨p, hpM, hp⟩ := PP
  have hMz : ¬ (M : Int) = 0 := by omega
  have v1 : IntKind.i64.wrap ((N : Int) - 2) = (M : Int) := by rw [IntKind.wrap_i64]; omega
  have v2 : IntKind.i64.wrap (2 + (p : Int)) = ((2 + p : Nat) : Int) := by rw [IntKind.wrap_i64]; omega
  go_cut [12] (fun v wx => v = .int .i64 ((2 + p : Nat) : Int) ∧ w4 = wx)
  case first =>
    rcases hp with ⟨t6, t5, rfl⟩ | ⟨q, rfl, hm1, hm2⟩
    · go_wp2
      go_meet
      case rel => exact ⟨rfl, rfl⟩
    · go_wp2
      go_meet
      case rel => exact ⟨rfl, rfl⟩
  case rest =>
    obtain ⟨rfl, rfl⟩ := hcut
    obtain ⟨t, ht⟩ : ∃ t, 2 + p = t := ⟨_, rfl⟩
    rw [ht] at v2 ⊢
    have htN : t < N := by omega
    have ht2 : 2 ≤ t := by omega
    obtain ⟨g, rfl, hg1, hg2⟩ := own_pos o1 (by omega)
    have hc := (o1.cellAt t (by omega)).trans (List.getElem?_eq_getElem (by rw [List.length_map, hEl]; exact htN))
    rw [List.getElem_map] at hc
    have hz := o1.frozenAt t
    have hgt : E[t]? = some (E[t]'(by rw [hEl]; exact htN)) := List.getElem?_eq_getElem _
    have hns : ∀ c, c < 256 → E[t]'(by rw [hEl]; exact htN) ≠ c → readP (E.set t c) = none := fun c h1 h2 => turned_none hr hsE ht2 (by rw [hEl]; exact htN) h1 h2
    have hst := (o1.stored t (byteV y)).1
    have hO := (Only.refl (fun b => b = g) w4).setCell (p := ⟨g, t, none⟩) (.inl rfl) (byteV y)
    have hb5 := B4.out.trans (hO.below B4.out.size fun b q => by
      subst q
      have := B3.out.size
      omega)
    rw [← List.map_set] at hst
    have hcap := own_cap' o1
    generalize E[t]'(by rw [hEl]; exact htN) = x at *
    have hs5 : Small (E.set t y) := fun q hq => by
      rcases List.mem_or_eq_of_mem_set hq with h | h
      · exact hsE q h
      · rw [h]; exact hy
    have by5 := own_bytes hst hs5
    have hl5 : (E.set t y).length = N := by rw [List.length_set, hEl]
    have cd := decode_any (c := c1) by5 (by rw [hl5]; exact hcap) (by rw [hl5]; omega)
    have hd5 : decN (E.set t y) = N := by unfold decN; rw [turned_len ht2]; exact hdE
    have ht5 : (E.set t y).take N = E.set t y := List.take_of_length_le (by omega)
    rw [hl5] at cd
    have HD : Hid ((x = y ∧ readP (E.set t y) = some r) ∨ (x ≠ y ∧ readP (E.set t y) = none)) := Lib.hid (by
      by_cases q : x = y
      · left
        refine ⟨q, ?_⟩
        subst q
        have : E.set t x = E := List.ext_getElem? fun i => by
          by_cases hi : t = i
          · subst hi
            rw [List.getElem?_set_self (by omega), hgt]
          · rw [List.getElem?_set_ne hi]
        rw [this]
        exact hr
      · exact .inr ⟨q, hns y hy q⟩)
    have HB5 := Lib.hid hb5
    have HT5 := Lib.hid (And.intro ht5 hd5)
    have HL5 := Lib.hid hl5
    have e2 : (0 : Int) ≤ (t : Int) := by omega
    have e3 : (t : Int) < (N : Int) := by omega
    have t1 := beq_nat x y
    have X : Hid ((x == y) = true ↔ x = y) := Lib.hid beq_iff_eq
    unfold byteV at hc
    clear hM ht hpM ht5 hd5 hl5 hb5 hst hO hns hgt hs5 by5 hdE hsE hr v1 v2 hp hMz
    generalize (x == y) = zb at *
    generalize E.set t y = E' at *
    unfold byteV at cd HB5
    go_upto_region 12 with fail
    generalize World.setCell _ _ _ = w5 at *
    go_wp2_with fail
    refine cd.mono ?_
    rintro e w6 ⟨b6, he⟩
    have B6 := Lib.hid (HB5.out.trans (b6.mono HB5.out.size))
    clear cd b6
    have hxy : zb = true ↔ x = y := X.out
    rcases he with ⟨hno, -⟩ | ⟨-, -, -, ⟨hno, rfl⟩ | ⟨r', m', hno, rfl, -⟩⟩
    · rw [HL5.out, HT5.out.2] at hno
      omega
    · rw [HT5.out.2, HT5.out.1] at hno
      obtain rfl : zb = false := by
        rcases HD.out with ⟨-, q⟩ | ⟨q, -⟩
        · rw [q] at hno
          cases hno
        · cases zb
          · rfl
          · exact absurd (hxy.1 rfl) q
      have st := store_rec_new w6 recZ memZ
      have F := Lib.hid (B6.out.trans ((below_alloc w6 (.cells (recA recZ memZ) 31)).mono B6.out.size))
      clear hno hxy X HD
      go_wp2_with (refine wpList_store_run rfl 31 (.tmp 14) (.tmp 83) _ _ rfl rfl rfl st ?_; clear st)
      go_ret
      exact ⟨rfl, F.out⟩
    · rw [HT5.out.2, HT5.out.1] at hno
      obtain rfl : zb = true := by
        rcases HD.out with ⟨q, -⟩ | ⟨-, q⟩
        · exact hxy.2 q
        · rw [q] at hno
          cases hno
      have st := store_rec_new w6 r' m'
      have F := Lib.hid (B6.out.trans ((below_alloc w6 (.cells (recA r' m') 31)).mono B6.out.size))
      clear hno hxy X HD
      go_wp2_with (refine wpList_store_run rfl 31 (.tmp 14) (.tmp 83) _ _ rfl rfl rfl st ?_; clear st)
      go_ret
      exact ⟨rfl, F.out⟩
end Go.Proofs.Ythbaoljghofkoaa
