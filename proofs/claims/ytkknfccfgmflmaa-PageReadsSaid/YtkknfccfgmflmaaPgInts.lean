/- Whether two rows of ints are one. Conditions: they lie there. -/
import Derived.Test.YtkknfccfgmflmaaPgRead
namespace Go.Proofs.Ytkknfccfgmflmaa
open Go.ChangeShapes Go.WideShapes Go.ChangeAt Go.RowKit
open NumMath
set_option linter.unusedVariables false
set_option linter.unusedSimpArgs false
set_option maxRecDepth 20000

set_option maxHeartbeats 2000000 in
theorem ints_any (A A' : Option Addr) (c c' : Nat) (l m : List Nat) (B : Nat) (w : World) (h1 : At w B A (l.map intV)) (h2 : At w B A' (m.map intV)) (hn : l.length ≤ 100000) :
    Calls Try.prog 29 #[.slice A l.length c, .slice A' m.length c'] w fun e w' => e = .returned (.bool (decide (l = m))) ∧ Drew w w' := by
  by_cases hlen : l.length = m.length
  · have hl1 : ((l.length : Int) != (m.length : Int)) = false := by rw [hlen]; simp
    go_enter Try.func29, Try.ntmps29
    go_wp2_with fail
    go_loopw [5] (fun i wr => ∃ k : Nat, k ≤ l.length ∧ i = .int .i64 k ∧ l.take k = m.take k ∧ Drew w wr) (fun i _ => l.length - (intOf i).toNat)
    case atStart => exact ⟨0, Nat.zero_le _, rfl, rfl, Drew.refl _⟩
    case round =>
      obtain ⟨k, hk, rfl, heq, hd⟩ := hrel
      rcases Nat.lt_or_ge k l.length with hlt | hge
      · have hlt' : k < m.length := by omega
        obtain ⟨b, o, rfl, _, q1⟩ := h1 k (by rw [List.length_map]; exact hlt)
        obtain ⟨b', o', rfl, _, q2⟩ := h2 k (by rw [List.length_map]; exact hlt')
        rw [List.getElem_map] at q1 q2
        have p1 : wr.cell? ⟨b, o + k, none⟩ = some (.int .i64 (l[k] : Nat)) := by obtain ⟨m, rfl⟩ := hd; exact q1
        have p2 : wr.cell? ⟨b', o' + k, none⟩ = some (.int .i64 (m[k] : Nat)) := by obtain ⟨m, rfl⟩ := hd; exact q2
        have t1 := List.take_succ_eq_append_getElem hlt
        have t2 := List.take_succ_eq_append_getElem hlt'
        clear q1 q2 h1 h2
        have hx : l[k] = m[k] → l.take (k + 1) = m.take (k + 1) := fun e => by rw [t1, t2, heq, e]
        have hy : l[k] ≠ m[k] → l ≠ m := fun hne e => by subst e; exact hne rfl
        clear t1 t2 heq
        generalize l[k] = x at *
        generalize m[k] = y at *
        have e0 : (0 : Int) ≤ (k : Int) := by omega
        have e1 : (k : Int) < (l.length : Int) := by omega
        have e2 : (k : Int) < (m.length : Int) := by omega
        have e3 : decide ((k : Int) < (l.length : Int)) = true := by rw [decide_eq_true_iff]; omega
        have HL := Lib.hid hlen
        generalize l.length = n1 at *
        generalize m.length = n2 at *
        clear hlen
        by_cases hxy : x = y
        · have HX := Lib.hid (hx hxy)
          clear hy hx
          subst hxy
          have hb : ((x : Int) != (x : Int)) = false := by simp
          go_wp2_with fail
          go_quiet (fail)
          generalize hwq : World.drewN _ _ = w2
          have hd2 : Drew w w2 := by rw [← hwq]; exact hd.more _
          clear hwq p1 p2
          go_wp2
          go_roundw
          case rel => exact ⟨k + 1, by omega, by go_num, HX.out, hd2⟩
          case measure => simp [intOf]; omega
        · have hb : ((x : Int) != (y : Int)) = true := by rw [bne_iff_ne]; omega
          have H := Lib.hid (hy hxy)
          clear hxy hx hy
          go_wp2_with fail
          go_quiet (fail)
          generalize hwq : World.drewN _ _ = w2
          have hd2 : Drew w w2 := by rw [← hwq]; exact hd.more _
          clear hwq p1 p2
          go_wp2
          go_ret
          exact ⟨ret_bool (by rw [eq_comm, decide_eq_false_iff_not]; exact H.out), hd2⟩
      · have hk2 : k = l.length := by omega
        subst hk2
        have H : l = m := by rwa [List.take_length, hlen, List.take_length] at heq
        have HH := Lib.hid H
        clear H heq h1 h2
        go_wp2
        go_ret
        exact ⟨ret_bool (by rw [eq_comm, decide_eq_true_iff]; exact HH.out), hd⟩
  · have hne : decide (l = m) = false := by rw [decide_eq_false_iff_not]; exact fun e => hlen (by rw [e])
    have hl1 : ((l.length : Int) != (m.length : Int)) = true := by simp; omega
    rw [hne]
    go_enter Try.func29, Try.ntmps29
    go_wp2
    go_ret
    exact ⟨rfl, Drew.refl _⟩
theorem rd2_congr {f g : Nat → Nat} {a : Nat} (h : ∀ i, i < 448 → f i = g i) (ha : a + 2 ≤ 448) : rd g a 2 = rd f a 2 := by
  show g a + 256 * (g (a + 1) + 256 * 0) = f a + 256 * (f (a + 1) + 256 * 0)
  rw [h a (by omega), h (a + 1) (by omega)]
theorem SoundP.congr {f g : Nat → Nat} (hs : SoundP f) (h : ∀ i, i < 448 → f i = g i) : SoundP g := by
  have hc : cnt g = cnt f := rd2_congr h (by omega)
  have hl : lowN g = lowN f := rd2_congr h (by omega)
  have hc40 := hs.c40
  have ha : ∀ s, s < 40 → atN g s = atN f s := fun s h2 => rd2_congr h (by omega)
  have hn : ∀ s, s < 40 → lenN g s = lenN f s := fun s h2 => rd2_congr h (by omega)
  have ht : ∀ k i, k ≤ 40 → tkn g k i = tkn f k i := fun k i hk => by
    rw [Bool.eq_iff_iff, tkn_iff, tkn_iff]
    constructor
    · rintro ⟨s, q1, q2, q3⟩
      rw [ha s (by omega)] at q2 q3
      rw [hn s (by omega)] at q3
      exact ⟨s, q1, q2, q3⟩
    · rintro ⟨s, q1, q2, q3⟩
      refine ⟨s, q1, ?_, ?_⟩
      · rw [ha s (by omega)]; exact q2
      · rw [ha s (by omega), hn s (by omega)]; exact q3
  have hst : slotsF g = slotsF f := by
    unfold slotsF
    rw [hc]
    unfold slotsTo
    refine List.filter_congr fun s hs2 => ?_
    rw [List.mem_range] at hs2
    rw [hn s (by omega)]
  refine ⟨by rw [hc]; exact hc40, fun s hsc => ?_, fun i h1 h2 => ?_, ?_, ?_⟩
  · rw [hc] at hsc ⊢
    have := hs.good s hsc
    unfold goodS at this ⊢
    rw [ha s (by omega), hn s (by omega)]
    rcases this with z | ⟨z1, z2, z3, z4, z5⟩
    · exact .inl z
    · exact .inr ⟨z1, z2, z3, z4, fun j hj => by rw [ht s _ (by omega)]; exact z5 j hj⟩
  · rw [hc] at h1 ⊢
    rw [ht _ _ hc40, ← h i h2]
    exact hs.zero i h1 h2
  · rw [hst, hl, ← hs.low]
    exact lowC_congr _ _ fun s hs2 => by
      have := slotsTo_mem hs2
      exact ha s (by omega)
  · rw [hc]
    rcases hs.top with z | z
    · exact .inl z
    · rcases Nat.eq_zero_or_pos (cnt f) with q | q
      · exact .inl q
      · rw [hn _ (by omega)]
        exact .inr z
theorem fL_cut (f : Nat → Nat) (i : Nat) (h : i < 448) : fL (cut f 0 448) i = f i := by
  unfold fL cut
  simp [List.getElem?_range, h]
theorem PgAt.again {w : World} {gp : Nat} {f g : Nat → Nat} (h : PgAt w gp f) (he : ∀ i, i < 448 → f i = g i) (hg : ∀ i, g i < 256) : PgAt w gp g := by
  refine ⟨?_, hg⟩
  have : pgL g = pgL f := List.map_congr_left fun i hi => (he i (List.mem_range.1 hi)).symm
  rw [this]
  exact h.blk
theorem read_back {f : Nat → Nat} (h : Sound f) : okRead (cut f 0 448) ∧ readF (cut f 0 448) = fL (cut f 0 448) := by
  have hp := h.toP.congr (g := fL (cut f 0 448)) fun i hi => (fL_cut f i hi).symm
  refine ⟨⟨cut_length _ _ _, .inr hp⟩, ?_⟩
  unfold readF
  rw [if_neg]
  intro hz
  have hz' : ∀ i, i < 448 → f i = 0 := fun i hi => by
    unfold sameB at hz
    rw [List.all_eq_true] at hz
    have := hz i (List.mem_range.2 hi)
    rw [beq_iff_eq, fL_cut f i hi] at this
    exact this
  have hc : cnt f = 0 := by
    show f 12 + 256 * (f 13 + 256 * 0) = 0
    rw [hz' 12 (by omega), hz' 13 (by omega)]
  have hl : lowN f = 0 := by
    show f 14 + 256 * (f 15 + 256 * 0) = 0
    rw [hz' 14 (by omega), hz' 15 (by omega)]
  have := h.low
  rw [hl, show slotsF f = slotsTo f (cnt f) from rfl, hc] at this
  cases this
end Go.Proofs.Ytkknfccfgmflmaa
