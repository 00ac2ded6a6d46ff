/- page: the document's Read. Conditions: the bytes lie there. -/
import Derived.Test.YtkknfccfgmflmaaPgRdM
namespace Go.Proofs.Ytkknfccfgmflmaa
open Go.ChangeShapes Go.WideShapes Go.ChangeAt Go.RowKit
open NumMath
set_option linter.unusedVariables false
set_option linter.unusedSimpArgs false
set_option maxRecDepth 20000

theorem rpA_N2 (r : RP) (n : Nat) : (rpA r).setIfInBounds 1 (.int .u32 (n : Int)) = rpA { r with N := n } := rpA_set _ _ _ _ fun j hj => by
  unfold rpV
  by_cases h : 1 = j
  · subst h
    rfl
  · have h1 : ¬ j = 1 := fun e => h e.symm
    rw [if_neg h, if_neg h1, if_neg h1]
def allz (f : Nat → Nat) (k : Nat) : Bool := (List.range k).all fun i => f i == 0
theorem allz_next (f : Nat → Nat) (k : Nat) : allz f (k + 1) = (allz f k && (f k == 0)) := by
  unfold allz
  rw [List.range_succ, List.all_append]
  simp
theorem allz_same (f : Nat → Nat) : allz f 448 = sameB f zeroF := rfl
theorem allz_zero {f : Nat → Nat} (h : allz f 448 = true) : rdR f 0 = rpZero 0 := by
  have hz : ∀ i, i < 448 → f i = 0 := fun i hi => by
    unfold allz at h
    rw [List.all_eq_true] at h
    simpa using h i (List.mem_range.2 hi)
  rw [rdR_zero]
  have e1 : rd f 8 4 = 0 := (rd_congr (g := zeroF) fun i a b => hz i (by omega)).trans rfl
  have e2 : rd f 0 8 = 0 := (rd_congr (g := zeroF) fun i a b => hz i (by omega)).trans rfl
  rw [e1, e2]
  rfl
/-- the document's page within slot k -/
def rdS (f : Nat → Nat) (k : Nat) (m : Nat → Bool) : RP := ⟨rd f 0 8, rd f 8 4, fun t => if t < k + 1 then atN f t else 0, fun t => if t < k + 1 then lenN f t else 0, fun i => if m i = true then f i else 0⟩
theorem rdS_start (f : Nat → Nat) (k : Nat) : ({ rdR f k with O := up1 (rdR f k).O k (atN f k), S := up1 (rdR f k).S k (lenN f k) } : RP) = rdS f k (tkn f k) := by
  unfold rdR rdS
  simp only [up1_next]
theorem rdS_next (f : Nat → Nat) (k a q : Nat) (h : a ≤ q) : ({ rdS f k (tk2 f k a q) with B := up1 (rdS f k (tk2 f k a q)).B q (f q) } : RP) = rdS f k (tk2 f k a (q + 1)) := by
  unfold rdS
  simp only [mask_next f k a q h]
theorem rdS_end (f : Nat → Nat) (k : Nat) : rdS f k (tkn f (k + 1)) = rdR f (k + 1) := rfl
/-- a slot may lie there -/
def preS (x y Q : Nat) : Prop := (y = 0 ∧ x = 0) ∨ (0 < y ∧ y ≤ 64 ∧ Q ≤ x ∧ x + y ≤ 448)
instance (x y Q : Nat) : Decidable (preS x y Q) := inferInstanceAs (Decidable (_ ∨ _))
def RReadPost (l : List Nat) (w : World) (e : Ending) (w' : World) : Prop :=
  Below w.heap.size w w' ∧ ((okRead l ∧ ∃ gr, e = .returned (.tuple #[.pointer (some ⟨gr, 0, none⟩), .int .i64 0]) ∧ RAt w' gr (toR (readF l)) ∧ w.heap.size ≤ gr) ∨ (¬ okRead l ∧ e = .returned (.tuple #[.pointer none, .int .i64 90])))
set_option maxHeartbeats 16000000 in
theorem rread_any (A : Option Addr) (c : Nat) (l : List Nat) (B : Nat) (w : World) (h : Bytes w B A l) (hB : B ≤ w.heap.size) (hc : l.length ≤ c) :
    Calls Try.prog 27 #[.slice A l.length c] w (RReadPost l w) := by
  by_cases hl : l.length = 448
  · obtain ⟨b, o, rfl, -, -, -⟩ := h.at_ (k := 0) (by omega)
    have hsm := h.2
    have hB0' := hB
    have hfs : ∀ i, fL l i < 256 := fL_small hsm
    have hcell : ∀ W, Below w.heap.size w W → ∀ j, j < 448 → W.cell? ⟨b, o + j, none⟩ = some (.int .u8 (fL l j : Nat)) := fun W hW j hj => by
      obtain ⟨b', o', e', hb', hc'⟩ := h.1 j (by rw [List.length_map]; omega)
      injection e' with e'
      injection e' with e1 e2
      subst e1
      subst e2
      rw [hW.cell (p := ⟨b, o + j, none⟩) (by show b < w.heap.size; omega), hc']
      simp [fL, List.getElem?_eq_getElem (show j < l.length by omega), byteV]
    have hget : ∀ W, Below w.heap.size w W → ∀ a n c', a + n ≤ 448 → n ≤ 8 → Calls Try.prog 52 #[.slice (some ⟨b, o + a, none⟩) n c'] W fun e w' => e = .returned (.int .u64 (rd (fL l) a n : Nat)) ∧ Drew W w' := fun W hW a n c' h1 h2 => by
      have hby : Bytes W B (some ⟨b, o + a, none⟩) (cut (fL l) a n) := by
        rw [← fL_part l (by omega)]
        exact ((h.below (hW.mono hB)).drop a).take n
      have := refget_any (some ⟨b, o + a, none⟩) c' (cut (fL l) a n) B W hby (by rw [cut_length]; omega)
      rw [cut_length, cut_take h2] at this
      exact this
    have hall := fL_all l
    rw [hl] at hall hc ⊢
    have HL := Lib.hid (And.intro hl hall)
    have hOk : okRead l = (sameB (fL l) zeroF = true ∨ SoundP (fL l)) := by
      unfold okRead
      rw [hl]
      simp
    have HOK := Lib.hid hOk
    have HRF : Hid (readF l = if sameB (fL l) zeroF = true then newF 0 else fL l) := Lib.hid rfl
    clear hOk hl hall hsm
    generalize hf : fL l = f at *
    have HF := Lib.hid hf
    clear hf
    have hz : Try.zeroCells70 = rpA (rpZero 0) := by kernel_rfl
    have s0 : (8 : Int) ≤ (c : Int) := by omega
    have s1 : (12 : Int) ≤ (c : Int) := by omega
    have s2 : (14 : Int) ≤ (c : Int) := by omega
    have d0 : Drew w w.drew := ⟨1, rfl⟩
    have dB : ∀ W, Drew w W → Below w.heap.size w W := fun W hd => hd.below _
    have g0 : ∀ W, Drew w W → Calls Try.prog 52 #[.slice (some ⟨b, o, none⟩) 8 c] W fun e w' => e = .returned (.int .u64 (rd f 0 8 : Nat)) ∧ Drew W w' := fun W hd => hget W (dB W hd) 0 8 c (by omega) (by omega)
    have g8 : ∀ W, Drew w W → Calls Try.prog 52 #[.slice (some ⟨b, o + 8, none⟩) 4 (c - 8)] W fun e w' => e = .returned (.int .u64 (rd f 8 4 : Nat)) ∧ Drew W w' := fun W hd => hget W (dB W hd) 8 4 (c - 8) (by omega) (by omega)
    have hN := rd_lt hfs 8 4
    have v8 : IntKind.u32.wrap (rd f 8 4 : Int) = (rd f 8 4 : Int) := by rw [IntKind.wrap_u32]; omega
    go_enter Try.func27, Try.ntmps27
    go_upto_region 3 with fail
    go_cut [4] (fun s4 wx => ∃ gr, s4 = .pointer (some ⟨gr, 0, none⟩) ∧ Blk wx gr 70 (rpA (rdR f 0)) ∧ Below w.heap.size w wx ∧ w.heap.size ≤ gr)
    case first =>
      have hbx : ∀ W, Drew w W → Blk (W.alloc (.cells ((Try.zeroCells70.setIfInBounds 0 (.int .u64 (rd f 0 8 : Int))).setIfInBounds 1 (.int .u32 (rd f 8 4 : Int))) 70)) W.heap.size 70 (rpA (rdR f 0)) ∧ Below w.heap.size w (W.alloc (.cells ((Try.zeroCells70.setIfInBounds 0 (.int .u64 (rd f 0 8 : Int))).setIfInBounds 1 (.int .u32 (rd f 8 4 : Int))) 70)) ∧ w.heap.size ≤ W.heap.size := fun W hd => by
        rw [hz, rpA_L, rpA_N2, rdR_zero]
        exact ⟨Blk.new W _ _, (hd.below _).alloc (by have := hd.size; omega) _, by have := hd.size; omega⟩
      have HBX := Lib.hid hbx
      clear hbx hz hget hcell h s2 hc dB
      go_wp2_with fail
      go_region_held3 (fun _w => True) (exact trivial) (first
        | ((with_reducible refine (g0 _ d0).mono ?_); rintro e wA ⟨rfl, hA⟩; have DA := d0.trans hA)
        | ((with_reducible refine (g8 _ DA).mono ?_); rintro e wE ⟨rfl, hA⟩; have DE := DA.trans hA)
        | ((with_reducible refine (g8 _ d0).mono ?_); rintro e wA ⟨rfl, hA⟩; have DB := d0.trans hA)
        | ((with_reducible refine (g0 _ DB).mono ?_); rintro e wE ⟨rfl, hA⟩; have DE := DB.trans hA)
        | fail)
      all_goals
        go_wp2
        go_meet
        case rel => exact ⟨_, rfl, HBX.out _ DE⟩
    case rest =>
      obtain ⟨gr, rfl, hB0, hb0, hgr⟩ := hcut
      rename World => wx
      clear g0 g8 d0 dB hz v8 hN s0 s1
      go_wp2_with fail
      go_loop [5, 6] (fun z i => ∃ k : Nat, k ≤ 448 ∧ i = .int .i64 k ∧ z = .bool (allz f k)) (fun _ i => 448 - (intOf i).toNat)
      case atStart => exact ⟨0, Nat.zero_le _, rfl, rfl⟩
      case round =>
        obtain ⟨k, hk, rfl, rfl⟩ := hrel
        rcases Nat.lt_or_ge k 448 with hlt | hge
        · have e1 : decide ((k : Int) < 448) = true := by rw [decide_eq_true_iff]; omega
          have e2 : (0 : Int) ≤ (k : Int) := by omega
          have e3 : (k : Int) < 448 := by omega
          have hck := hcell wx hb0 k hlt
          have hnx := allz_next f k
          clear hget hcell h
          cases hz : allz f k
          · rw [hz, Bool.false_and] at hnx
            have HN := Lib.hid hnx
            clear hnx hz
            go_wp2
            go_round
            case rel => exact ⟨k + 1, by omega, by go_num, by rw [HN.out]⟩
            case measure => simp [intOf]; omega
          · rw [hz, Bool.true_and] at hnx
            generalize f k = y at *
            have hy : ((y : Int) == 0) = (y == 0) := by rw [Bool.eq_iff_iff, beq_iff_eq, beq_iff_eq]; omega
            have HN := Lib.hid (hnx.trans hy.symm)
            clear hnx hz hy
            go_wp2
            go_round
            case rel => exact ⟨k + 1, by omega, by go_num, by rw [HN.out]⟩
            case measure => simp [intOf]; omega
        · obtain rfl : k = 448 := by omega
          have e1 : decide (((448 : Nat) : Int) < 448) = false := rfl
          cases hz : allz f 448
          · have hno : sameB f zeroF = false := by rw [← allz_same]; exact hz
            have hok : okRead l = SoundP f := by rw [HOK.out, hno]; simp
            have hrf : readF l = f := by rw [HRF.out, hno]; exact if_neg (by simp)
            have HK := Lib.hid (And.intro hok hrf)
            clear hz hno hok hrf HOK HRF
            have g12 := hget wx hb0 12 2 (c - 12) (by omega) (by omega)
            rw [show rd f 12 2 = cnt f from rfl] at g12
            have hn16 := rd2_lt hfs 12
            rw [show rd f 12 2 = cnt f from rfl] at hn16
            have vn : IntKind.i64.wrap (cnt f : Int) = (cnt f : Int) := by rw [IntKind.wrap_i64]; omega
            rcases Nat.lt_or_ge 40 (cnt f) with h40 | h40
            · have t1 : decide ((40 : Int) < (cnt f : Int)) = true := by rw [decide_eq_true_iff]; omega
              have NO : Hid (¬ okRead l) := Lib.hid (by rw [HK.out.1]; exact fun z => by have := z.c40; omega)
              clear hget hcell h hB0 h40
              generalize cnt f = n at *
              go_wp2_with fail
              refine g12.mono ?_
              rintro e w2 ⟨rfl, hd⟩
              have hb2 := hb0.trans (hd.below _)
              clear g12 hd hb0
              go_wp2
              go_ret2
              exact ⟨hb2, .inr ⟨NO.out, rfl⟩⟩
            · have t1 : decide ((40 : Int) < (cnt f : Int)) = false := by rw [decide_eq_false_iff_not]; omega
              obtain ⟨n, hn⟩ : ∃ n, cnt f = n := ⟨_, rfl⟩
              rw [hn] at g12 vn t1 h40 hn16
              have HN := Lib.hid hn
              clear hn
              have hzU : Try.zeroCells73 = bools (tkn f 0) := by rw [tkn_zero]; kernel_rfl
              go_wp2_with fail
              refine g12.mono ?_
              rintro e w2 ⟨rfl, hd⟩
              have hb2 := hb0.trans (hd.below _)
              have hB2 := hB0.below (hd.below _) hB0.lt
              clear g12 hd hb0 hB0 s2
              have hU2 : Blk (w2.alloc (.cells Try.zeroCells73 73)) w2.heap.size 73 (bools (tkn f 0)) := by rw [hzU]; exact Blk.new w2 _ _
              have hB3 := hB2.alloc (.cells Try.zeroCells73 73)
              have hb3 := hb2.alloc hb2.size (.cells Try.zeroCells73 73)
              have hne : gr ≠ w2.heap.size := by have := hB2.lt; omega
              have hgu : w.heap.size ≤ w2.heap.size := hb2.size
              clear hzU hB2 hb2
              go_wp2_with fail
              generalize World.alloc w2 _ = w3 at *
              generalize w2.heap.size = gu at *
              have hNo : Hid (∀ s, s < n → ¬ goodS f n s → ¬ okRead l) := Lib.hid fun s hs hng => by
                rw [HK.out.1]
                exact fun z => hng (by have := z.good s (by rw [HN.out]; exact hs); rwa [HN.out] at this)
              obtain ⟨Q, hQ⟩ : ∃ Q, 16 + 4 * n = Q := ⟨_, rfl⟩
              have hQi : (16 : Int) + 4 * (n : Int) = (Q : Int) := by omega
              have hgQ : ∀ s, goodS f n s = ((lenN f s = 0 ∧ atN f s = 0) ∨ (0 < lenN f s ∧ lenN f s ≤ 64 ∧ Q ≤ atN f s ∧ atN f s + lenN f s ≤ 448 ∧ ∀ j, j < lenN f s → tkn f s (atN f s + j) = false)) := fun s => by rw [← hQ]; rfl
              have hQ176 : Q ≤ 176 := by omega
              clear hQ
              go_loopw [9, 10, 11, 12] (fun iv _ _ _ wr => ∃ k : Nat, k ≤ n ∧ iv = .int .i64 k ∧ (∀ s, s < k → goodS f n s) ∧ Blk wr gu 73 (bools (tkn f k)) ∧ Blk wr gr 70 (rpA (rdR f k)) ∧ Below w.heap.size w wr) (fun iv _ _ _ _ => n - (intOf iv).toNat)
              case atStart => exact ⟨0, Nat.zero_le _, rfl, fun s hs => absurd hs (Nat.not_lt_zero s), hU2, hB3, hb3⟩
              case round =>
                clear hU2 hB3 hb3
                obtain ⟨k, hk, rfl, hgood, hU, hB, hb⟩ := hrel
                rcases Nat.lt_or_ge k n with hlt | hge
                · have e1 : decide ((k : Int) < (n : Int)) = true := by rw [decide_eq_true_iff]; omega
                  have e2 : (0 : Int) ≤ (k : Int) := by omega
                  have e3 : (k : Int) < 40 := by omega
                  obtain ⟨p, hp⟩ : ∃ p, 16 + 4 * k = p := ⟨_, rfl⟩
                  obtain ⟨p2, hp2⟩ : ∃ p2, 18 + 4 * k = p2 := ⟨_, rfl⟩
                  obtain ⟨p3, hp3⟩ : ∃ p3, 20 + 4 * k = p3 := ⟨_, rfl⟩
                  have i1 : (16 : Int) + 4 * (k : Int) = (p : Int) := by omega
                  have i2 : (18 : Int) + 4 * (k : Int) = (p2 : Int) := by omega
                  have i3 : (20 : Int) + 4 * (k : Int) = (p3 : Int) := by omega
                  have j1 : (0 : Int) ≤ (p : Int) := by omega
                  have j2 : (p : Int) ≤ (p2 : Int) := by omega
                  have j3 : (p2 : Int) ≤ (c : Int) := by omega
                  have j4 : (p2 : Int) ≤ (p3 : Int) := by omega
                  have j5 : (p3 : Int) ≤ (c : Int) := by omega
                  have j6 : (0 : Int) ≤ (p2 : Int) := by omega
                  have j7 : (c = p) = False := eq_false (by omega)
                  have j8 : (c = p2) = False := eq_false (by omega)
                  have gA := hget wr hb p (p2 - p) (c - p) (by omega) (by omega)
                  have gB := fun W hW => hget W hW p2 (p3 - p2) (c - p2) (by omega) (by omega)
                  have rA : rd f p (p2 - p) = atN f k := by rw [show p2 - p = 2 by omega, ← hp]; rfl
                  have rB : rd f p2 (p3 - p2) = lenN f k := by rw [show p3 - p2 = 2 by omega, ← hp2]; rfl
                  have hx16 : atN f k < 65536 := rd2_lt hfs _
                  have hy16 : lenN f k < 65536 := rd2_lt hfs _
                  rw [rA] at gA
                  simp only [rB] at gB
                  have hgd := hgQ k
                  have hno1 := hNo.out k hlt
                  rw [hgd] at hno1
                  have hst := rdS_start f k
                  have hk40 : k < 40 := by omega
                  have htE := tk2_end f k
                  clear rA rB hp hp2 hp3 hgQ
                  generalize atN f k = x at *
                  generalize lenN f k = y at *
                  have vx : IntKind.i64.wrap (x : Int) = (x : Int) := by rw [IntKind.wrap_i64]; omega
                  have vy : IntKind.i64.wrap (y : Int) = (y : Int) := by rw [IntKind.wrap_i64]; omega
                  go_wp2_with fail
                  refine gA.mono ?_
                  rintro e w4 ⟨rfl, hd4⟩
                  have hb4 := hb.trans (hd4.below _)
                  have hB4 := hB.below (hd4.below _) hB.lt
                  have hU4 := hU.below (hd4.below _) hU.lt
                  have gB4 := gB w4 hb4
                  clear gA gB hd4 hb hB hU
                  go_wp2_with fail
                  refine gB4.mono ?_
                  rintro e w5 ⟨rfl, hd5⟩
                  have hb5 := hb4.trans (hd5.below _)
                  have hB5 := hB4.below (hd5.below _) hB4.lt
                  have hU5 := hU4.below (hd5.below _) hU4.lt
                  clear gB4 hd5 hb4 hB4 hU4
                  have f1 := hB5.frozen (2 + k)
                  have c1 := rpc_O hB5 hk40
                  have hB6 := rpb_O hB5 k x hk40
                  have f2 := hB6.frozen (42 + k)
                  have c2 := rpc_S hB6 hk40
                  have hB7 := rpb_S hB6 k y hk40
                  have hb6 := hb5.setCell (p := ⟨gr, 2 + k, none⟩) hgr (.int .i64 (x : Nat))
                  have hb7 := hb6.setCell (p := ⟨gr, 42 + k, none⟩) hgr (.int .i64 (y : Nat))
                  have hU6 := hU5.far (p := ⟨gr, 2 + k, none⟩) (by show gu ≠ gr; omega) (.int .i64 (x : Nat))
                  have hU7 := hU6.far (p := ⟨gr, 42 + k, none⟩) (by show gu ≠ gr; omega) (.int .i64 (y : Nat))
                  simp only at hB7
                  rw [hst] at hB7
                  clear hB5 hb5 hU5 hb6 hU6 hst
                  have HB := Lib.hid (And.intro hB7 (And.intro hb7 hU7))
                  clear hB7 hb7 hU7 hB6
                  go_upto_region 22 with fail
                  generalize World.setCell (World.setCell w5 _ _) _ _ = w6 at *
                  go_cut [109] (fun s wx => s = .bool (!decide (preS x y Q)) ∧ w6 = wx)
                  case first =>
                    clear hno1 hgood hNo f1 c1 f2 c2
                    have YES : preS x y Q → Hid (decide (preS x y Q) = true) := fun z => Lib.hid (decide_eq_true z)
                    have NOP : ¬ preS x y Q → Hid (decide (preS x y Q) = false) := fun z => Lib.hid (decide_eq_false z)
                    rcases Nat.lt_or_ge 64 y with z | z
                    · have y1 : decide ((64 : Int) < (y : Int)) = true := by rw [decide_eq_true_iff]; omega
                      have HP := NOP (by unfold preS; omega)
                      clear YES NOP
                      go_wp2
                      go_meet
                      case rel => exact ⟨by rw [HP.out]; rfl, rfl⟩
                    · have y1 : decide ((64 : Int) < (y : Int)) = false := by rw [decide_eq_false_iff_not]; omega
                      rcases Nat.eq_zero_or_pos y with z0 | z0
                      · subst z0
                        rcases Nat.eq_zero_or_pos x with x0 | x0
                        · subst x0
                          have HP := YES (.inl ⟨rfl, rfl⟩)
                          clear YES NOP
                          go_wp2
                          go_meet
                          case rel => exact ⟨by rw [HP.out]; rfl, rfl⟩
                        · have y2 : ((x : Int) != 0) = true := by rw [bne_iff_ne]; omega
                          have HP := NOP (by unfold preS; omega)
                          clear YES NOP
                          go_wp2
                          go_meet
                          case rel => exact ⟨by rw [HP.out]; rfl, rfl⟩
                      · have y2 : ((y : Int) == 0) = false := by rw [beq_eq_false_iff_ne]; omega
                        have y3 : decide ((0 : Int) < (y : Int)) = true := by rw [decide_eq_true_iff]; omega
                        rcases Nat.lt_or_ge x Q with x0 | x0
                        · have y4 : decide ((x : Int) < (Q : Int)) = true := by rw [decide_eq_true_iff]; omega
                          have HP := NOP (by unfold preS; omega)
                          clear YES NOP
                          go_wp2
                          go_meet
                          case rel => exact ⟨by rw [HP.out]; rfl, rfl⟩
                        · have y4 : decide ((x : Int) < (Q : Int)) = false := by rw [decide_eq_false_iff_not]; omega
                          have y6 : IntKind.i64.wrap ((x : Int) + (y : Int)) = (x : Int) + (y : Int) := by rw [IntKind.wrap_i64]; omega
                          rcases Nat.lt_or_ge 448 (x + y) with x1 | x1
                          · have y5 : decide ((448 : Int) < (x : Int) + (y : Int)) = true := by rw [decide_eq_true_iff]; omega
                            have HP := NOP (by unfold preS; omega)
                            clear YES NOP
                            go_wp2
                            go_meet
                            case rel => exact ⟨by rw [HP.out]; rfl, rfl⟩
                          · have y5 : decide ((448 : Int) < (x : Int) + (y : Int)) = false := by rw [decide_eq_false_iff_not]; omega
                            have HP := YES (.inr ⟨z0, z, x0, x1⟩)
                            clear YES NOP
                            go_wp2
                            go_meet
                            case rel => exact ⟨by rw [HP.out]; first | rfl | (rw [decide_eq_false (show ¬ x < Q by omega)]; rfl), rfl⟩
                  case rest =>
                    obtain ⟨rfl, rfl⟩ := hcut
                    obtain ⟨hB, hb, hU⟩ := HB.out
                    clear f1 c1 f2 c2
                    by_cases hpre : preS x y Q
                    · rw [decide_eq_true hpre, show (!true) = false from rfl]
                      have hxy : x + y ≤ 448 := by unfold preS at hpre; omega
                      have hy64 : y ≤ 64 := by unfold preS at hpre; omega
                      have vxy : IntKind.i64.wrap ((x : Int) + (y : Int)) = (x : Int) + (y : Int) := by rw [IntKind.wrap_i64]; omega
                      clear HB
                      go_wp2_with fail
                      go_loopw [12] (fun kv wq => ∃ q : Nat, x ≤ q ∧ q ≤ x + y ∧ kv = .int .i64 q ∧ (∀ i, x ≤ i → i < q → tkn f k i = false) ∧ Blk wq gu 73 (bools (tk2 f k x q)) ∧ Blk wq gr 70 (rpA (rdS f k (tk2 f k x q))) ∧ Below w.heap.size w wq) (fun kv _ => x + y - (intOf kv).toNat)
                      case atStart => exact ⟨x, Nat.le_refl _, by omega, rfl, fun i a b => absurd a (by omega), by rw [tk2_start]; exact hU, by rw [tk2_start]; exact hB, hb⟩
                      case round =>
                        clear hB hb hU
                        obtain ⟨q, hq1, hq2, rfl, hfr, hU, hB, hb⟩ := hrel
                        rename World => wq
                        rcases Nat.lt_or_ge q (x + y) with hlq | hgq
                        · have t2 : decide ((q : Int) < (x : Int) + (y : Int)) = true := by rw [decide_eq_true_iff]; omega
                          have i4 : (0 : Int) ≤ (q : Int) := by omega
                          have i5 : (q : Int) < 448 := by omega
                          have hcu := hU.cell q
                          rw [bools_cell _ _ (by omega), tk2_self] at hcu
                          cases hv : tkn f k q
                          · rw [hv] at hcu
                            have hbs := bools_set (tk2 f k x q) q
                            rw [tk2_next f k x q hq1] at hbs
                            have hms := rdS_next f k x q hq1
                            have fz1 := hU.frozen q
                            have hU2 := hU.set_ q (.bool true)
                            rw [hbs] at hU2
                            have hB2 := hB.far (p := ⟨gu, q, none⟩) hne (.bool true)
                            have hb2 := hb.setCell (p := ⟨gu, q, none⟩) hgu (.bool true)
                            have hcl := hcell _ hb2 q (by omega)
                            have fz2 := hB2.frozen (82 + q)
                            have hc2 := rpc_B hB2 (show q < 448 by omega)
                            have hB3 := rpb_B hB2 q (f q) (by omega)
                            rw [hms] at hB3
                            have hU3 := hU2.far (p := ⟨gr, 82 + q, none⟩) (by show gu ≠ gr; omega) (.int .u8 (f q : Nat))
                            have hb3 := hb2.setCell (p := ⟨gr, 82 + q, none⟩) hgr (.int .u8 (f q : Nat))
                            have hfr2 : ∀ i, x ≤ i → i < q + 1 → tkn f k i = false := fun i a b => by
                              rcases Nat.lt_or_ge i q with z | z
                              · exact hfr i a z
                              · obtain rfl : i = q := by omega
                                exact hv
                            have i6 : (q : Int) < 448 := by omega
                            have FIN := Lib.hid (And.intro hfr2 (And.intro hU3.drew (And.intro hB3.drew hb3.drew)))
                            clear hfr hfr2 hU3 hB3 hb3 hU2 hB2 hb2 hU hB hb hbs hms hv hget hcell h hno1 hgood htE
                            generalize f q = v at *
                            go_upto_region 30 with fail
                            generalize World.setCell wq _ _ = w7 at *
                            go_still_tail 9, (by kernel_rfl)
                            change wpList _ _ _ _ _ _
                            go_wp2
                            go_roundw
                            case rel => exact ⟨q + 1, by omega, by omega, by go_num, FIN.out.1, FIN.out.2.1, FIN.out.2.2.1, FIN.out.2.2.2⟩
                            case measure => simp [intOf]; omega
                          · rw [hv] at hcu
                            have NO : Hid (¬ okRead l) := Lib.hid (hno1 fun z => by
                              rcases z with z | ⟨z1, z2, z3, z4, z5⟩
                              · omega
                              · have := z5 (q - x) (by omega)
                                rw [show x + (q - x) = q by omega, hv] at this
                                cases this)
                            clear hfr hU hB hget hcell h hno1 hgood htE
                            go_wp2
                            go_ret2
                            exact ⟨hb, .inr ⟨NO.out, rfl⟩⟩
                        · have t2 : decide ((q : Int) < (x : Int) + (y : Int)) = false := by rw [decide_eq_false_iff_not]; omega
                          have hqe : q = x + y := by omega
                          have he : tk2 f k x q = tkn f (k + 1) := by rw [hqe]; exact htE
                          rw [he] at hU hB
                          rw [rdS_end] at hB
                          have hg1 : goodS f n k := by
                            rw [hgd]
                            rcases hpre with z | ⟨z1, z2, z3, z4⟩
                            · exact .inl z
                            · exact .inr ⟨z1, z2, z3, z4, fun j hj => hfr (x + j) (by omega) (by omega)⟩
                          have hg2 : ∀ s, s < k + 1 → goodS f n s := fun s hs => by
                            rcases Nat.lt_or_ge s k with z | z
                            · exact hgood s z
                            · obtain rfl : s = k := by omega
                              exact hg1
                          have FIN := Lib.hid (And.intro hg2 (And.intro hU (And.intro hB hb)))
                          clear hfr hg1 hg2 hU hB hb hget hcell h hno1 hgood htE hgd he hqe hpre
                          go_wp2
                          go_roundw
                          case rel => exact ⟨k + 1, by omega, by go_num, FIN.out.1, FIN.out.2.1, FIN.out.2.2.1, FIN.out.2.2.2⟩
                          case measure => simp [intOf]; omega
                    · rw [decide_eq_false hpre, show (!false) = true from rfl]
                      have NO : Hid (¬ okRead l) := Lib.hid (hno1 fun z => hpre (by
                        unfold preS
                        rcases z with z | ⟨z1, z2, z3, z4, z5⟩
                        · exact .inl z
                        · exact .inr ⟨z1, z2, z3, z4⟩))
                      clear hno1 hB hU hget hcell h HB hgood htE
                      go_wp2
                      go_ret2
                      exact ⟨hb, .inr ⟨NO.out, rfl⟩⟩
                · obtain rfl : k = n := by omega
                  have e1 : decide ((k : Int) < (k : Int)) = false := by rw [decide_eq_false_iff_not]; omega
                  have cB := rbytes_any (w := wr) ⟨rdR_fit hfs hgood, hB⟩
                  have hyn : bytesR (rdR f k) = l ↔ okRead l := by
                    rw [HK.out.1]
                    constructor
                    · intro z
                      refine rdR_no (by rw [HN.out]; exact h40) (by rw [HN.out]; exact hgood) hfs ?_
                      rw [HN.out, z]
                      exact HL.out.2.symm
                    · intro z
                      have := rdR_yes z hfs
                      rw [HN.out, HL.out.2] at this
                      exact this
                  have hyR : okRead l → toR (readF l) = rdR f k := fun z => by
                    rw [HK.out.1] at z
                    rw [HK.out.2, ← rdR_toR z hfs, HN.out]
                  have HY := Lib.hid hyR
                  have HF2 := Lib.hid (rdR_fit hfs hgood)
                  have hbl : ∀ W, Below w.heap.size w W → Bytes W B (some ⟨b, o, none⟩) l := fun W hW => h.below (hW.mono hB0')
                  generalize hRR : rdR f k = R at *
                  clear hRR hgQ hget hcell h hgood hNo hU hyR
                  go_wp2_with fail
                  refine cB.mono ?_
                  rintro e w4 ⟨A4, c4, rfl, o4, b4, s4⟩
                  have hb4 := hb.trans (b4.mono hb.size)
                  have hB4 := hB.below b4 hB.lt
                  have x4 := own_bytes o4 s4
                  have x5 := hbl w4 hb4
                  have h1 := run_bytes_str (P := Try.prog) x4 24 9 5 Try.underlying24 Try.underlying5 Try.underlying9 c4
                  have h2 := run_bytes_str (P := Try.prog) x5 24 9 5 Try.underlying24 Try.underlying5 Try.underlying9 c
                  have h3 := strB_beq s4 x5.2
                  rw [HL.out.1] at h2
                  clear cB hb b4 hB o4 x4 x5 hbl s4
                  generalize bytesR R = lb at *
                  by_cases hlb : lb = l
                  · rw [decide_eq_true hlb] at h3
                    have h4 : ((strB lb).toList != (strB l).toList) = false := by unfold bne; rw [h3]; rfl
                    have hok := hyn.1 hlb
                    have hRA : RAt w4 gr (toR (readF l)) := by rw [HY.out hok]; exact ⟨HF2.out, hB4⟩
                    have FIN := Lib.hid (And.intro hok (And.intro hRA hb4))
                    clear hyn hlb hok hRA hb4 hB4
                    go_wp2
                    go_ret2
                    exact ⟨FIN.out.2.2, .inl ⟨FIN.out.1, gr, rfl, FIN.out.2.1, hgr⟩⟩
                  · rw [decide_eq_false hlb] at h3
                    have h4 : ((strB lb).toList != (strB l).toList) = true := by unfold bne; rw [h3]; rfl
                    have hok : ¬ okRead l := fun z => hlb (hyn.2 z)
                    have FIN := Lib.hid (And.intro hok hb4)
                    clear hyn hlb hok hb4 hB4
                    go_wp2
                    go_ret2
                    exact ⟨FIN.out.2, .inr ⟨FIN.out.1, rfl⟩⟩
          · have hyes : sameB f zeroF = true := by rw [← allz_same]; exact hz
            have hok : okRead l := by rw [HOK.out]; exact .inl hyes
            have hrf : readF l = newF 0 := by rw [HRF.out]; exact if_pos hyes
            have hR : RAt wx gr (toR (readF l)) := by
              rw [hrf, toR_new 0 (by omega)]
              show RAt wx gr (rpZero 0)
              refine ⟨rpZero_fit 0 (by omega), ?_⟩
              rw [← allz_zero hz]
              exact hB0
            have FIN := Lib.hid (And.intro hok (And.intro hR (And.intro hb0 hgr)))
            clear hget hcell h hyes hok hrf hR hB0 hb0
            go_wp2
            go_ret2
            exact ⟨FIN.out.2.2.1, .inl ⟨FIN.out.1, gr, rfl, FIN.out.2.1, FIN.out.2.2.2⟩⟩
  · have t1 : ((l.length : Int) != 448) = true := by rw [bne_iff_ne]; omega
    have NO : Hid (¬ okRead l) := Lib.hid fun z => hl z.1
    generalize l.length = n at *
    clear hl
    go_enter Try.func27, Try.ntmps27
    go_wp2
    go_ret2
    exact ⟨Below.refl _ _, .inr ⟨NO.out, rfl⟩⟩
end Go.Proofs.Ytkknfccfgmflmaa
