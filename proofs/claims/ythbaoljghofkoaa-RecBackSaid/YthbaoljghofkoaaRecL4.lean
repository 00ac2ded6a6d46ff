/- RecBack: the law's walk. Conditions: the record, the bytes lie there. -/
import Derived.Test.YthbaoljghofkoaaRecL2
namespace Go.Proofs.Ythbaoljghofkoaa
open Go.ChangeShapes Go.WideShapes Go.ChangeAt Go.RowKit
open NumMath
set_option linter.unusedVariables false
set_option linter.unusedSimpArgs false
set_option maxRecDepth 20000

theorem decN_take {l : List Nat} {p : Nat} (h : 2 ≤ p) : decN (l.take p) = decN l := by
  unfold decN
  rw [List.take_take, Nat.min_eq_left h]
set_option maxHeartbeats 16000000 in
theorem recBack_walk (v0 v1 v2 : Value) (w : World) (w0 : IsRec w v0) (w1 : IsBytes w v1) (w2 : IsInt .i64 w v2) :
    Calls Try.prog 5 #[v0, v1, v2] w fun e w' => e = .returned (.bool true) ∧ Below w.heap.size w w' := by
  obtain ⟨r, m, rfl, h⟩ := w0
  obtain ⟨A, c, l, rfl, hlc, hcm, hl⟩ := w1
  obtain ⟨a, rfl, ha⟩ := w2
  clear hcm ha
  have kr := Blk.new w 31 (recA r m)
  have b1 := below_alloc w (.cells (recA r m) 31)
  go_enter Try.func5, Try.ntmps5
  go_upto_region 1 with fail
  have hR := h.below b1
  have hl1 := hl.below b1
  generalize World.alloc w _ = w1 at *
  have hgr := kr.lt
  have HKR := Lib.hid kr
  have HB1 := Lib.hid b1
  have HR := Lib.hid hR
  have HL := Lib.hid hl1
  have hBw : w.heap.size ≤ w1.heap.size := b1.size
  have ldr : Hid (∀ W, Below w1.heap.size w1 W → (Instr.loadAt 31 (.pointer (some ⟨w.heap.size, 0, none⟩))).run Try.prog W = .ok (.agg (recA r m)) W) := Lib.hid fun W hW => load_rec (HKR.out.below hW hgr)
  have FIN : Hid (∀ W, Below w1.heap.size w1 W → Below w.heap.size w W) := Lib.hid fun W a => HB1.out.trans (a.mono HB1.out.size)
  clear kr b1 h hR hl hl1
  have ch := heavy_any r m w1
  have ld := ldr.out w1 (Below.refl _ _)
  generalize hhr : heavyB r = hr at *
  have HHR := Lib.hid hhr
  clear hhr
  go_wp2_with (refine wpList_load_run rfl 31 (.tmp 3) _ _ rfl rfl ld ?_; clear ld)
  refine ch.mono ?_
  rintro e w2 ⟨rfl, b2⟩
  have B2 := Lib.hid b2
  have kn := known_any w2
  clear ch b2
  cases hr
  rotate_left
  · go_wp2_with fail
    refine kn.mono ?_
    rintro e w3 ⟨rfl, b3⟩
    have F := Lib.hid (FIN.out _ (B2.out.trans (b3.mono B2.out.size)))
    clear kn b3
    go_wp2
    go_ret
    exact ⟨rfl, F.out⟩
  obtain ⟨n, hn⟩ : ∃ n, l.length = n := ⟨_, rfl⟩
  rw [hn] at hlc ⊢
  have HN := Lib.hid hn
  clear hn
  rcases Nat.lt_or_ge 3000 n with z | z
  · have t1 : decide ((3000 : Int) < (n : Int)) = true := by rw [decide_eq_true_iff]; omega
    go_wp2_with fail
    refine kn.mono ?_
    rintro e w3 ⟨rfl, b3⟩
    have F := Lib.hid (FIN.out _ (B2.out.trans (b3.mono B2.out.size)))
    clear kn b3
    go_wp2
    go_ret
    exact ⟨rfl, F.out⟩
  have t1 : decide ((3000 : Int) < (n : Int)) = false := by rw [decide_eq_false_iff_not]; omega
  go_wp2_with fail
  refine kn.mono ?_
  rintro e w4 ⟨rfl, b4⟩
  have B4 := Lib.hid (B2.out.trans (b4.mono B2.out.size))
  have ld := ldr.out w4 B4.out
  have ce := encode_any r m w.heap.size w4 (HR.out.below (B4.out.mono hBw)) (Nat.le_trans hBw B4.out.size)
  clear kn b4 B2 t1
  go_wp2_with (refine wpList_load_run rfl 31 (.tmp 3) _ _ rfl rfl ld ?_; clear ld)
  refine ce.mono ?_
  rintro e w5 ⟨b5, he⟩
  have B5 := Lib.hid (B4.out.trans (b5.mono B4.out.size))
  clear ce b5
  rcases he with ⟨ok1, A1, c1, rfl, o1⟩ | ⟨ok1, rfl⟩
  rotate_left
  · have F := Lib.hid (FIN.out _ B5.out)
    go_wp2
    go_ret
    exact ⟨rfl, F.out⟩
  have hsm := encL_small HR.out.fits
  have hbl := bodyL_length ok1
  have hN27 : 27 ≤ (encL r).length := by rw [encL_length]; omega
  have hN5k : (encL r).length ≤ 5000 := by rw [encL_length]; omega
  clear hbl
  have hdn := fun rest => encL_decN ok1 rest
  have hrd := readP_enc ok1 HR.out.fits
  have by1 := own_bytes o1 hsm
  have hc1 := own_cap' o1
  obtain ⟨E, hE⟩ : ∃ E, encL r = E := ⟨_, rfl⟩
  rw [hE] at hsm hN27 hN5k hdn hrd by1 hc1 ⊢
  obtain ⟨N, hN⟩ : ∃ N, E.length = N := ⟨_, rfl⟩
  rw [hN] at hN27 hN5k hdn hc1 ⊢
  have HNN := Lib.hid hN
  have cl := lent_any A1 c1 E w5.heap.size w5 by1 (by omega)
  rw [hN] at cl
  clear o1 hN hE
  go_wp2_with fail
  refine cl.mono ?_
  rintro e w6 ⟨A2, c2, rfl, o2, b6⟩
  have rb : RB w5 w6 A2 N c2 E := ⟨o2, b6, hsm, HNN.out⟩
  have hl6 := HL.out.below ((B5.out.trans (b6.mono B5.out.size)).mono hBw)
  clear cl o2 b6
  go_wp2_with (at_builtin; refine wpList_append_rb rfl _ _ 25 25 rfl Try.underlying25 Try.underlying25 rb rfl w.heap.size A n c l rfl hl6 HN.out (by omega) ?_; intro A3 c3 w7 r7; clear rb hl6)
  have hlen7 : (E ++ l).length = N + n := by rw [List.length_append, HNN.out, HN.out]
  have cd := decode_any (c := c3) r7.bytes (by rw [hlen7]; exact own_cap' r7.1) (by rw [hlen7]; omega)
  have b7 := r7.2.1
  have B7 := Lib.hid (B5.out.trans (b7.mono B5.out.size))
  have by7 := (by1.below b7).more b7.size
  rw [hlen7] at cd
  clear b7 r7 by1
  refine cd.mono ?_
  have htk : (E ++ l).take N = E := by rw [← HNN.out, List.take_left]
  rintro e w8 ⟨b8, ⟨hno, -⟩ | ⟨-, -, -, ⟨hno, -⟩ | ⟨r', m', hr, rfl, hF⟩⟩⟩
  · rw [hlen7, hdn] at hno
    omega
  · rw [hdn, htk, hrd] at hno
    cases hno
  rw [hdn, htk, hrd] at hr
  obtain rfl := Option.some.inj hr
  rw [hdn]
  have B8 := Lib.hid (B7.out.trans (b8.mono B7.out.size))
  have st := store_rec_new w8 r m'
  have k8 := Blk.new w8 31 (recA r m')
  have b9 := below_alloc w8 (.cells (recA r m') 31)
  have hR' := hF.at_.below b9
  have B9 := Lib.hid (B8.out.trans (b9.mono B8.out.size))
  have by9 := ((by7.below b8).below (b9.mono b8.size)).more (Nat.le_trans b8.size b9.size)
  have hw8 : w8.heap.size ≤ (w8.alloc (.cells (recA r m') 31)).heap.size := b9.size
  clear cd b8 hF b9 hlen7 htk by7
  go_upto_region 9 with (refine wpList_store_run rfl 31 (.tmp 10) (.tmp 50) _ _ rfl rfl rfl st ?_; clear st)
  generalize World.alloc w8 _ = w9 at *
  have hg8 := k8.lt
  have HK8 := Lib.hid k8
  have HR' := Lib.hid hR'
  clear k8 hR'
  have hNz : ¬ (N : Int) = 0 := by omega
  have PP : ∃ p : Nat, p < N ∧ (((a < 0) = True ∧ (0 ≤ a) = False ∧ p = 0) ∨ ∃ q : Nat, a = q ∧ (q : Int) % (N : Int) = (p : Int) ∧ Int.tmod (q : Int) (N : Int) = (p : Int)) := by
    by_cases z : a < 0
    · exact ⟨0, by omega, .inl ⟨eq_true z, eq_false (by omega), rfl⟩⟩
    · refine ⟨a.toNat % N, Nat.mod_lt _ (by omega), .inr ⟨a.toNat, by omega, ?_, ?_⟩⟩
      · omega
      · rw [Int.tmod_eq_emod_of_nonneg (by omega)]; omega
  obtain ⟨p, hpN, hp⟩ := PP
  have s1 : (p : Int) ≤ (c1 : Int) := by omega
  have s0 : (0 : Int) ≤ (p : Int) := by omega
  have hpl : (E.take p).length = p := by rw [List.length_take, HNN.out]; omega
  have cd := decode_any (c := c1) (by9.take p) (by rw [hpl]; omega) (by rw [hpl]; omega)
  rw [hpl] at cd
  have hno60 : (E.take p).length < 27 ∨ decN (E.take p) = 0 ∨ (E.take p).length < decN (E.take p) := by
    rw [hpl]
    rcases Nat.lt_or_ge p 27 with z | z
    · exact .inl z
    · have hd := hdn []
      rw [List.append_nil] at hd
      rw [decN_take (by omega), hd]
      omega
  have HNO := Lib.hid hno60
  have cS : Hid (∀ W, Below w9.heap.size w9 W → Calls Try.prog 15 #[.agg (recA r m), .agg (recA r m')] W (SamePost r r W)) := Lib.hid fun W hW => by
    have hW1 := B9.out.trans (hW.mono B9.out.size)
    have hh := heavyB_not HHR.out
    exact same_rec r r m m' W.heap.size W ((HR.out.below (hW1.mono hBw)).more (Nat.le_trans hBw hW1.size)) ((HR'.out.below (hW.mono hw8)).more (Nat.le_trans hw8 hW.size)) (Nat.le_refl _) (Nat.le_trans hh.1 (by decide)) (Nat.le_trans hh.2.1 (by decide))
  clear hno60 by9 hdn hrd hsm hpl
  rcases hp with ⟨t6, t5, rfl⟩ | ⟨q, rfl, hm1, hm2⟩
  all_goals
    go_wp2_with fail
    refine cd.mono ?_
    rintro e w10 ⟨b10, he⟩
    obtain rfl : e = .returned (.tuple #[.agg (recA recZ memZ), .int .i64 0, .int .u16 60]) := by
      rcases he with ⟨-, he⟩ | ⟨hn1, hn2, hn3, -⟩
      · exact he
      · have := HNO.out
        omega
    clear he
    have st := store_rec_new w10 recZ memZ
    have b11 := below_alloc w10 (.cells (recA recZ memZ) 31)
    have B11 := Lib.hid (b10.trans (b11.mono b10.size))
    clear cd b10 b11
    go_upto_region 10 with (refine wpList_store_run rfl 31 (.tmp 13) (.tmp 62) _ _ rfl rfl rfl st ?_; clear st)
    generalize World.alloc w10 _ = w11 at *
    have ld1 := ldr.out w11 (B9.out.trans (B11.out.mono B9.out.size))
    have ld2 := load_rec (HK8.out.below B11.out hg8)
    have cc := cS.out w11 B11.out
    go_wp2_with (first | (refine wpList_load_run_g (by rfl) 31 (.tmp 3) _ _ rfl rfl ld1 ?_; clear ld1) | (refine wpList_load_run_g (by rfl) 31 (.tmp 10) _ _ rfl rfl ld2 ?_; clear ld2) | fail)
    refine cc.mono ?_
    rintro e w12 ⟨⟨x, rfl, hx⟩, b12⟩
    obtain rfl : x = true := hx.2 rfl
    have F := Lib.hid (FIN.out _ (B9.out.trans ((B11.out.trans (b12.mono B11.out.size)).mono B9.out.size)))
    clear cc b12 hx cS
    go_wp2
    go_ret
    exact ⟨rfl, F.out⟩
end Go.Proofs.Ythbaoljghofkoaa
