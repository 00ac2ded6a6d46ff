/- The law CodecBack, walked. Conditions: none beyond what the row says. -/
import Derived.Test.YtciidogbojbkiaaCodecLaws
import Derived.Test.YtciidogbojbkiaaBlks
namespace Go.Proofs.Ytciidogbojbkiaa
open Go.ChangeShapes Go.WideShapes Go.ChangeAt Go.RowKit
open NumMath
set_option linter.unusedVariables false
set_option linter.unusedSimpArgs false
set_option maxRecDepth 20000
attribute [local go_sem ↓] Go.wp_at_zero Go.wp_at_succ

theorem asked_back {r : Req} (h : r.Fits) : askedC (askL r) = if mayR r = true then (r, 0) else (Req.zero, 230) := by
  unfold askedC
  rw [asked_ask h]
  by_cases hm : mayR r = true
  · rw [if_pos ⟨askL_length r, hm⟩, if_pos hm]
  · rw [if_neg (fun q => hm q.2), if_neg hm]
theorem told_back {r : Rep} (h : r.Fits) : toldC (tellL r) = (r, 0) := by
  unfold toldC
  rw [if_pos (tellL_length r), told_tell h]
set_option maxHeartbeats 8000000 in
theorem codecBack_walk (v0 : Value) (v1 : Value) (v2 : Value) (v3 : Value) (w : World) (w0 : IsReq w v0) (w1 : IsReq w v1) (w2 : IsRep w v2) (w3 : IsRep w v3) :
    Calls Try.prog 6 #[v0, v1, v2, v3] w fun e w' => e = .returned (.bool true) ∧ Below w.heap.size w w' := by
  obtain ⟨a, rfl, ha⟩ := w0
  obtain ⟨b, rfl, hb⟩ := w1
  obtain ⟨r, rfl, hr⟩ := w2
  obtain ⟨s, rfl, hs⟩ := w3
  have haskA := ask_any a ha
  have haskB := ask_any b hb
  have htellR := tell_any r hr
  have htellS := tell_any s hs
  obtain ⟨qa, hqa⟩ : ∃ q, decide (a = b) = q := ⟨_, rfl⟩
  have hqa' : decide (askL a = askL b) = qa := by rw [← hqa, Bool.eq_iff_iff, decide_eq_true_iff, decide_eq_true_iff]; exact askL_inj ha hb
  obtain ⟨qr, hqr⟩ : ∃ q, decide (r = s) = q := ⟨_, rfl⟩
  have hqr' : decide (tellL r = tellL s) = qr := by rw [← hqr, Bool.eq_iff_iff, decide_eq_true_iff, decide_eq_true_iff]; exact tellL_inj hr hs
  have eAB := fun W => req_eql W a b
  have eRS := fun W => rep_eql W r s
  have eRR := fun W => rep_eql W r r
  have eAA := fun W => req_eql W a a
  have eZZ := fun W => req_eql W Req.zero Req.zero
  rw [hqa] at eAB
  rw [hqr] at eRS
  rw [decide_eq_true rfl] at eRR eAA eZZ
  obtain ⟨x, E, hX, hone⟩ : ∃ (x : Req) (E : Nat), askedC (askL a) = (x, E) ∧ ((E = 0 ∧ x = a) ∨ (E = 230 ∧ x = Req.zero)) := by
    rw [asked_back ha]
    by_cases hm : mayR a = true
    · rw [if_pos hm]; exact ⟨_, _, rfl, .inl ⟨rfl, rfl⟩⟩
    · rw [if_neg hm]; exact ⟨_, _, rfl, .inr ⟨rfl, rfl⟩⟩
  have hY := told_back hr
  have lA := askL_length a
  have lB := askL_length b
  have lR := tellL_length r
  have lS := tellL_length s
  generalize hLA : askL a = LA at *
  generalize hLB : askL b = LB at *
  generalize hLR : tellL r = LR at *
  generalize hLS : tellL s = LS at *
  have hXa : (E = 0 ∧ ∀ W, (binOp .eql 27 (reqV x) (reqV a)).run Try.prog W = .ok (.bool true) W) ∨ (E = 230 ∧ ∀ W, (binOp .eql 27 (reqV x) (reqV Req.zero)).run Try.prog W = .ok (.bool true) W) := by
    rcases hone with ⟨h1, rfl⟩ | ⟨h1, rfl⟩
    · exact .inl ⟨h1, eAA⟩
    · exact .inr ⟨h1, eZZ⟩
  clear hone hLA hLB hLR hLS hqa hqr ha hb hr hs eAA eZZ
  obtain ⟨a1, a2, a3, a4, a5, a6, a7, a8, a9⟩ := a
  obtain ⟨b1, b2, b3, b4, b5, b6, b7, b8, b9⟩ := b
  obtain ⟨x1, x2, x3, x4, x5, x6, x7, x8, x9⟩ := x
  obtain ⟨r1, r2, r3, r4⟩ := r
  obtain ⟨s1, s2, s3, s4⟩ := s
  simp only [reqV, repV] at haskA haskB htellR htellS eAB eRS eRR hXa ⊢
  replace hXa : (E = 0 ∧ ∀ W, (binOp .eql 27 (.agg #[.int .u8 x1, .int .u32 x2, .int .u8 x3, .int .u32 x4, .int .u32 x5, .int .u32 x6, .int .u32 x7, .int .u64 x8, .int .u64 x9]) (.agg #[.int .u8 a1, .int .u32 a2, .int .u8 a3, .int .u32 a4, .int .u32 a5, .int .u32 a6, .int .u32 a7, .int .u64 a8, .int .u64 a9])).run Try.prog W = .ok (.bool true) W) ∨ (E = 230 ∧ ∀ W, (binOp .eql 27 (.agg #[.int .u8 x1, .int .u32 x2, .int .u8 x3, .int .u32 x4, .int .u32 x5, .int .u32 x6, .int .u32 x7, .int .u64 x8, .int .u64 x9]) (.agg #[.int .u8 0, .int .u32 0, .int .u8 0, .int .u32 0, .int .u32 0, .int .u32 0, .int .u32 0, .int .u64 0, .int .u64 0])).run Try.prog W = .ok (.bool true) W) := hXa
  have K0' := ((((Blks.nil w).new 27 #[.int .u8 a1, .int .u32 a2, .int .u8 a3, .int .u32 a4, .int .u32 a5, .int .u32 a6, .int .u32 a7, .int .u64 a8, .int .u64 a9]).new 27 #[.int .u8 b1, .int .u32 b2, .int .u8 b3, .int .u32 b4, .int .u32 b5, .int .u32 b6, .int .u32 b7, .int .u64 b8, .int .u64 b9]).new 42 #[.int .u16 r1, .int .u64 r2, .int .u64 r3, .int .u64 r4]).new 42 #[.int .u16 s1, .int .u64 s2, .int .u64 s3, .int .u64 s4]
  have B0 : Below w.heap.size w ((((w.alloc (.cells #[.int .u8 a1, .int .u32 a2, .int .u8 a3, .int .u32 a4, .int .u32 a5, .int .u32 a6, .int .u32 a7, .int .u64 a8, .int .u64 a9] 27)).alloc (.cells #[.int .u8 b1, .int .u32 b2, .int .u8 b3, .int .u32 b4, .int .u32 b5, .int .u32 b6, .int .u32 b7, .int .u64 b8, .int .u64 b9] 27)).alloc (.cells #[.int .u16 r1, .int .u64 r2, .int .u64 r3, .int .u64 r4] 42)).alloc (.cells #[.int .u16 s1, .int .u64 s2, .int .u64 s3, .int .u64 s4] 42)) :=
    ((((Below.refl _ w).alloc (Nat.le_refl _) _).alloc (by simp) _).alloc (by simp; omega) _).alloc (by simp; omega) _
  simp only [World.size_alloc] at K0'
  have K0 : Blks ((((w.alloc (.cells #[.int .u8 a1, .int .u32 a2, .int .u8 a3, .int .u32 a4, .int .u32 a5, .int .u32 a6, .int .u32 a7, .int .u64 a8, .int .u64 a9] 27)).alloc (.cells #[.int .u8 b1, .int .u32 b2, .int .u8 b3, .int .u32 b4, .int .u32 b5, .int .u32 b6, .int .u32 b7, .int .u64 b8, .int .u64 b9] 27)).alloc (.cells #[.int .u16 r1, .int .u64 r2, .int .u64 r3, .int .u64 r4] 42)).alloc (.cells #[.int .u16 s1, .int .u64 s2, .int .u64 s3, .int .u64 s4] 42)) [(w.heap.size + 3, 42, #[.int .u16 s1, .int .u64 s2, .int .u64 s3, .int .u64 s4]), (w.heap.size + 2, 42, #[.int .u16 r1, .int .u64 r2, .int .u64 r3, .int .u64 r4]), (w.heap.size + 1, 27, #[.int .u8 b1, .int .u32 b2, .int .u8 b3, .int .u32 b4, .int .u32 b5, .int .u32 b6, .int .u32 b7, .int .u64 b8, .int .u64 b9]), (w.heap.size, 27, #[.int .u8 a1, .int .u32 a2, .int .u8 a3, .int .u32 a4, .int .u32 a5, .int .u32 a6, .int .u32 a7, .int .u64 a8, .int .u64 a9])] := K0'
  clear K0'
  go_enter Try.func6, Try.ntmps6
  go_upto_region 1 with fail
  generalize World.alloc (World.alloc (World.alloc (World.alloc w _) _) _) _ = W0 at *
  have q := K0.tail.tail.tail.head.cell
  go_wp2_with fail
  refine (haskA W0).mono ?_
  intro e W1 hret1
  obtain ⟨A1, c1, rfl, hown1, hb1, hx1⟩ := hret1.is
  have hc1 := own_cap hown1
  have K1 := K0.below hb1
  have B1 := B0.trans (hb1.mono B0.size)
  have hasked := asked_any A1 c1 LA W1 hx1 hc1 (by omega)
  rw [hX] at hasked
  rw [lA] at hasked ⊢
  simp only [reqV] at hasked
  clear hret1 hown1 hb1 hx1 q K0 B0
  go_wp2_with fail
  refine hasked.mono ?_
  rintro e W2 ⟨rfl, hb2⟩
  clear hasked
  have K2 := (K1.below hb2).new 27 #[.int .u8 x1, .int .u32 x2, .int .u8 x3, .int .u32 x4, .int .u32 x5, .int .u32 x6, .int .u32 x7, .int .u64 x8, .int .u64 x9]
  have B2 := (B1.trans (hb2.mono B1.size)).alloc (Nat.le_trans B1.size hb2.size) (.cells #[.int .u8 x1, .int .u32 x2, .int .u8 x3, .int .u32 x4, .int .u32 x5, .int .u32 x6, .int .u32 x7, .int .u64 x8, .int .u64 x9] 27)
  clear K1 B1 hb2
  go_upto_region 2 with fail
  generalize World.alloc W2 _ = W3 at *
  generalize W2.heap.size = gx at *
  have q := K2.tail.tail.head.cell
  go_wp2_with fail
  refine (htellR W3).mono ?_
  intro e W4 hret4
  obtain ⟨A4, c4, rfl, hown4, hb4, hx4⟩ := hret4.is
  have hc4 := own_cap hown4
  have K4 := K2.below hb4
  have B4 := B2.trans (hb4.mono B2.size)
  have htold := told_any A4 c4 LR W4 hx4 hc4 (by omega)
  rw [hY] at htold
  rw [lR] at htold ⊢
  simp only [repV] at htold
  clear hret4 hown4 hb4 hx4 q K2 B2
  go_wp2_with fail
  refine htold.mono ?_
  rintro e W5 ⟨rfl, hb5⟩
  clear htold
  have K5 := (K4.below hb5).new 42 #[.int .u16 r1, .int .u64 r2, .int .u64 r3, .int .u64 r4]
  have B5 := (B4.trans (hb5.mono B4.size)).alloc (Nat.le_trans B4.size hb5.size) (.cells #[.int .u16 r1, .int .u64 r2, .int .u64 r3, .int .u64 r4] 42)
  clear K4 B4 hb5
  go_upto_region 3 with fail
  generalize World.alloc W5 _ = W6 at *
  generalize W5.heap.size = gy at *
  go_cut [13] (fun s13 wx => W6 = wx ∧ s13 = .bool true)
  case first =>
    have qx := K5.tail.head.cell
    have qa := K5.tail.tail.tail.tail.tail.head.cell
    rcases hXa with ⟨rfl, heq⟩ | ⟨rfl, heq⟩
    · go_wp2
      go_meet
      case rel => exact ⟨rfl, rfl⟩
    · go_wp2
      go_meet
      case rel => exact ⟨rfl, rfl⟩
  case rest =>
  obtain ⟨rfl, rfl⟩ := hcut
  go_upto_region 4 with fail
  go_cut [14] (fun s14 wx => s14 = .bool true ∧ Blks wx [(gy, 42, #[.int .u16 r1, .int .u64 r2, .int .u64 r3, .int .u64 r4]), (gx, 27, #[.int .u8 x1, .int .u32 x2, .int .u8 x3, .int .u32 x4, .int .u32 x5, .int .u32 x6, .int .u32 x7, .int .u64 x8, .int .u64 x9]), (w.heap.size + 3, 42, #[.int .u16 s1, .int .u64 s2, .int .u64 s3, .int .u64 s4]), (w.heap.size + 2, 42, #[.int .u16 r1, .int .u64 r2, .int .u64 r3, .int .u64 r4]), (w.heap.size + 1, 27, #[.int .u8 b1, .int .u32 b2, .int .u8 b3, .int .u32 b4, .int .u32 b5, .int .u32 b6, .int .u32 b7, .int .u64 b8, .int .u64 b9]), (w.heap.size, 27, #[.int .u8 a1, .int .u32 a2, .int .u8 a3, .int .u32 a4, .int .u32 a5, .int .u32 a6, .int .u32 a7, .int .u64 a8, .int .u64 a9])] ∧ Below w.heap.size w wx)
  case first =>
    have q5 := (And.intro K5.tail.tail.tail.tail.tail.head.cell (And.intro K5.tail.tail.tail.tail.head.cell (And.intro K5.tail.tail.tail.head.cell K5.tail.tail.head.cell)))
    go_region_held3 (fun w' => (∀ o, w'.cell? ⟨w.heap.size, o, none⟩ = (#[.int .u8 a1, .int .u32 a2, .int .u8 a3, .int .u32 a4, .int .u32 a5, .int .u32 a6, .int .u32 a7, .int .u64 a8, .int .u64 a9] : Array Value)[o]?) ∧ (∀ o, w'.cell? ⟨w.heap.size + 1, o, none⟩ = (#[.int .u8 b1, .int .u32 b2, .int .u8 b3, .int .u32 b4, .int .u32 b5, .int .u32 b6, .int .u32 b7, .int .u64 b8, .int .u64 b9] : Array Value)[o]?) ∧ (∀ o, w'.cell? ⟨w.heap.size + 2, o, none⟩ = (#[.int .u16 r1, .int .u64 r2, .int .u64 r3, .int .u64 r4] : Array Value)[o]?) ∧ (∀ o, w'.cell? ⟨w.heap.size + 3, o, none⟩ = (#[.int .u16 s1, .int .u64 s2, .int .u64 s3, .int .u64 s4] : Array Value)[o]?))
      (first | go_keep | exact q5 | exact qp | exact qs | exact qt | exact qu | fail)
      (first
        | ((with_reducible refine (haskA _).mono ?_); intro e Wp hret; obtain ⟨Ap, cp, rfl, -, hbp, hxp⟩ := hret.is; clear hret; have Kp := (K5.drew).below hbp; have Bp := (B5.drew).trans (hbp.mono (B5.drew).size); have qp := (And.intro Kp.tail.tail.tail.tail.tail.head.cell (And.intro Kp.tail.tail.tail.tail.head.cell (And.intro Kp.tail.tail.tail.head.cell Kp.tail.tail.head.cell))))
        | ((with_reducible refine (haskB _).mono ?_); intro e Ws hret; obtain ⟨As, cs, rfl, -, hbs, hxs⟩ := hret.is; clear hret; have Ks := (Kp).below hbs; have Bs := (Bp).trans (hbs.mono (Bp).size); have qs := (And.intro Ks.tail.tail.tail.tail.tail.head.cell (And.intro Ks.tail.tail.tail.tail.head.cell (And.intro Ks.tail.tail.tail.head.cell Ks.tail.tail.head.cell))); have sab := same_any Ap As cp cs _ _ Ws.heap.size Ws ((hxp.below hbs).more hbs.size) hxs; (rw [hqa', lA, lB] at sab))
        | ((with_reducible refine sab.mono ?_); rintro e w8 ⟨rfl, rfl⟩)
        | ((with_reducible refine (htellR _).mono ?_); intro e Wt hret; obtain ⟨At_, ct, rfl, -, hbt, hxt⟩ := hret.is; clear hret; have Kt := (Ks).below hbt; have Bt := (Bs).trans (hbt.mono (Bs).size); have qt := (And.intro Kt.tail.tail.tail.tail.tail.head.cell (And.intro Kt.tail.tail.tail.tail.head.cell (And.intro Kt.tail.tail.tail.head.cell Kt.tail.tail.head.cell))))
        | ((with_reducible refine (htellS _).mono ?_); intro e Wu hret; obtain ⟨Au, cu, rfl, -, hbu, hxu⟩ := hret.is; clear hret; have Ku := (Kt).below hbu; have Bu := (Bt).trans (hbu.mono (Bt).size); have qu := (And.intro Ku.tail.tail.tail.tail.tail.head.cell (And.intro Ku.tail.tail.tail.tail.head.cell (And.intro Ku.tail.tail.tail.head.cell Ku.tail.tail.head.cell))); have srs := same_any At_ Au ct cu _ _ Wu.heap.size Wu ((hxt.below hbu).more hbu.size) hxu; (rw [hqr', lR, lS] at srs))
        | ((with_reducible refine srs.mono ?_); rintro e w8 ⟨rfl, rfl⟩)
        | fail)
    all_goals
      go_wp2_with fail
      go_meet
      case rel => exact ⟨rfl, Ku, Bu⟩
  case rest =>
  obtain ⟨rfl, K7, B7⟩ := hcut
  go_wp2_with fail
  refine (known_any _).mono ?_
  rintro e W8 ⟨rfl, hb8⟩
  have K8 := K7.below hb8
  have B8 := B7.trans (hb8.mono B7.size)
  have qy := K8.head.cell
  have qr := K8.tail.tail.tail.head.cell
  clear K7 B7 hb8
  go_wp2
  go_ret
  exact ⟨rfl, B8⟩
end Go.Proofs.Ytciidogbojbkiaa
