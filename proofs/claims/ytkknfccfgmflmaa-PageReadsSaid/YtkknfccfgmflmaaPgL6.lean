/- The law PageReads. Conditions: none. -/
import Derived.Test.YtkknfccfgmflmaaPgRdW
namespace Go.Proofs.Ytkknfccfgmflmaa
open Go.ChangeShapes Go.WideShapes Go.ChangeAt Go.RowKit
open NumMath
set_option linter.unusedVariables false
set_option linter.unusedSimpArgs false
set_option maxRecDepth 20000

theorem readF_sound {l : List Nat} (h : okRead l) (hs : Small l) : Sound (readF l) := by
  unfold readF
  rcases h.2 with z | z
  · rw [if_pos z]; exact (new_sound 0).1
  · by_cases hz : sameB (fL l) zeroF = true
    · rw [if_pos hz]; exact (new_sound 0).1
    · rw [if_neg hz]; exact z.toS (fL_small hs)
/-- both Reads' results -/
def BothR (lb : List Nat) (w3 w4 w5 : World) (pv ev rv fv : Value) : Prop :=
  (okRead lb ∧ ∃ gp gr, pv = .pointer (some ⟨gp, 0, none⟩) ∧ ev = .int .u16 0 ∧ rv = .pointer (some ⟨gr, 0, none⟩) ∧ fv = .int .i64 0 ∧ PgAt w5 gp (readF lb) ∧ RAt w5 gr (toR (readF lb)) ∧ w3.heap.size ≤ gp ∧ w4.heap.size ≤ gr ∧ gp < w4.heap.size) ∨
  (¬ okRead lb ∧ pv = .pointer none ∧ ev = .int .u16 90 ∧ rv = .pointer none ∧ fv = .int .i64 90)
set_option maxHeartbeats 8000000 in
theorem readsLaw_any (Ab : Option Addr) (cb : Nat) (lb : List Nat) (A : Option Addr) (c : Nat) (l : List OpP) (w : World) (hb : Bytes w w.heap.size Ab lb) (hcb : lb.length ≤ cb) (h : OpsAt w w.heap.size A l) :
    Calls Try.prog 7 #[.slice Ab lb.length cb, .slice A l.length c] w (TrueB w) := by
  have hsm := ops_small h
  obtain ⟨n, hn⟩ : ∃ n, lb.length = n := ⟨_, rfl⟩
  have HN := Lib.hid hn
  go_enter Try.func7, Try.ntmps7
  rw [hn] at hcb ⊢
  rcases Nat.lt_or_ge 600 n with h6 | h6
  · have t1 : decide ((600 : Int) < (n : Int)) = true := by rw [decide_eq_true_iff]; omega
    clear h hb hn hsm
    go_wp2_with fail
    refine (known_any _).mono ?_
    rintro e w1 ⟨rfl, b1⟩
    go_wp2
    go_ret
    exact ⟨rfl, b1⟩
  have t1 : decide ((600 : Int) < (n : Int)) = false := by rw [decide_eq_false_iff_not]; omega
  clear hn
  go_wp2_with fail
  refine (heavy_any A c l w.heap.size w h).mono ?_
  rintro e w1 ⟨⟨r, rfl, hr⟩, rfl⟩
  cases r with
  | true =>
    clear hr h hb
    go_wp2_with fail
    refine (known_any _).mono ?_
    rintro e w1 ⟨rfl, b1⟩
    go_wp2
    go_ret
    exact ⟨rfl, b1⟩
  | false =>
    obtain ⟨hlen, hlight⟩ := hr rfl
    clear hr
    go_wp2_with fail
    refine (known_any _).mono ?_
    rintro e w1 ⟨rfl, b1⟩
    have hs1 := b1.size
    have y1 := hb.below b1
    have hsl := hb.2
    have cL := lent_any Ab cb lb w.heap.size w1 y1 (by rw [HN.out]; omega)
    rw [HN.out] at cL
    go_wp2_with fail
    refine cL.mono ?_
    rintro e w2 ⟨A2, c2, rfl, o2, b2⟩
    have bw2 := b1.trans (b2.mono hs1)
    have hw12 := bw2.size
    have hown : ∀ b, some b = (Value.slice A2 n c2).ownBlock → w1.heap.size ≤ b ∧ b < w2.heap.size := fun b q => o2.lt b q.symm
    have x2 : Bytes w2 w2.heap.size A2 lb := ⟨At.own o2, hsl⟩
    have cR := read_any A2 c2 lb w2.heap.size w2 x2 (Nat.le_refl _) (by rw [HN.out]; omega)
    rw [HN.out] at cR
    clear cL b1 b2 x2 y1
    go_wp2_with fail
    refine cR.mono ?_
    rintro e w3 ⟨b3, hp3⟩
    have hR3 : ∃ pv ev, e = .returned (.tuple #[pv, ev]) ∧ ((okRead lb ∧ ∃ gp, pv = .pointer (some ⟨gp, 0, none⟩) ∧ ev = .int .u16 0 ∧ PgAt w3 gp (readF lb) ∧ w2.heap.size ≤ gp) ∨ (¬ okRead lb ∧ pv = .pointer none ∧ ev = .int .u16 90)) := by
      rcases hp3 with ⟨k1, gp, rfl, k2, k3⟩ | ⟨k1, rfl⟩
      · exact ⟨_, _, rfl, .inl ⟨k1, gp, rfl, rfl, k2, k3⟩⟩
      · exact ⟨_, _, rfl, .inr ⟨k1, rfl, rfl⟩⟩
    obtain ⟨pv, ev, rfl, hR3⟩ := hR3
    have bw3 := bw2.trans (b3.mono bw2.size)
    have o3 := kept_below b3 o2
    have cR2 := rread_any Ab cb lb w.heap.size w3 (hb.below bw3) bw3.size (by rw [HN.out]; exact hcb)
    rw [HN.out] at cR2
    clear cR hp3 bw2 o2
    go_wp2_with fail
    refine cR2.mono ?_
    rintro e w4 ⟨b4, hp4⟩
    have hR4 : ∃ rv fv, e = .returned (.tuple #[rv, fv]) ∧ BothR lb w2 w3 w4 pv ev rv fv := by
      rcases hp4 with ⟨k1, gr, rfl, k2, k3⟩ | ⟨k1, rfl⟩
      · rcases hR3 with ⟨-, gp, p1, p2, p3, p4⟩ | ⟨p0, -⟩
        · exact ⟨_, _, rfl, .inl ⟨k1, gp, gr, p1, p2, rfl, rfl, p3.below b4, k2, p4, k3, p3.lt⟩⟩
        · exact absurd k1 p0
      · rcases hR3 with ⟨p0, -⟩ | ⟨-, p1, p2⟩
        · exact absurd p0 k1
        · exact ⟨_, _, rfl, .inr ⟨k1, p1, p2, rfl, rfl⟩⟩
    obtain ⟨rv, fv, rfl, hR4⟩ := hR4
    have bw4 := bw3.trans (b4.mono bw3.size)
    have o4 := kept_below b4 o3
    have h4 := h.below bw4
    have hsz := b3.size
    have hsz1 := o4
    have HX := Lib.hid (And.intro o4 hR4)
    have hw24 : w2.heap.size ≤ w4.heap.size := Nat.le_trans b3.size b4.size
    have hw1 : w.heap.size ≤ w1.heap.size := hs1
    clear cR2 hp4 hR3 hR4 o3 o4 b3 b4 bw3 hb h
    go_wp2_with fail
    go_loopw [10] (fun i wr => ∃ j : Nat, ∃ zs : List Int, j ≤ n ∧ i = .int .i64 j ∧ zs.length = n ∧ wr.ownsRow w1.heap.size 5 1 (.slice A2 n c2) n (intsV zs) ∧ Only (fun b => some b = (Value.slice A2 n c2).ownBlock) w4 wr) (fun i _ => n - (intOf i).toNat)
    case atStart => exact ⟨0, lb.map fun n : Nat => (n : Int), Nat.zero_le _, rfl, by rw [List.length_map]; exact HN.out, by rw [← bytes_ints]; exact HX.out.1, Only.refl _ _⟩
    case round =>
      obtain ⟨j, zs, hj, rfl, hz, ho, hO⟩ := hrel
      rcases Nat.lt_or_ge j n with hjn | hjn
      · have e1 : decide ((j : Int) < (n : Int)) = true := by rw [decide_eq_true_iff]; omega
        have e2 : (0 : Int) ≤ (j : Int) := by omega
        have e3 : (j : Int) < (n : Int) := by omega
        obtain ⟨g, rfl, hg1, hg2⟩ := own_pos ho (by omega)
        have hc := (ho.cellAt j (by omega)).trans (intsV_get zs (by omega))
        have hfz := ho.frozenAt j
        have hst := Lib.hid (fun u => (ho.stored j u).1)
        have hTn : Hid (∀ u, Only (fun b => some b = (Value.slice (some ⟨g, 0, none⟩) n c2).ownBlock) w4 (wr.setCell ⟨g, j, none⟩ u)) := Lib.hid fun u => hO.setCell (p := ⟨g, j, none⟩) (.inl rfl) u
        have HZ := Lib.hid hz
        generalize zs[j] = z at *
        clear ho hO hz
        go_wp2
        go_roundw
        case rel =>
          refine ⟨j + 1, zs.set j ?_, by omega, by go_num, ?_, ?_, hTn.out _⟩
          rotate_left 2
          · rw [← intsV_set]
            exact hst.out _
          · rw [List.length_set]
            exact HZ.out
        case measure => simp [intOf]; omega
      · obtain rfl : j = n := by omega
        have e1 : decide ((j : Int) < (j : Int)) = false := by rw [decide_eq_false_iff_not]; omega
        clear ho hz
        have bw5 : Below w.heap.size w wr := bw4.trans (hO.below bw4.size fun b q => by have := hown b q; omega)
        rcases HX.out.2 with ⟨hok, gp, gr, rfl, rfl, rfl, rfl, p1, p2, p3, p4, p5⟩ | ⟨-, rfl, rfl, rfl, rfl⟩
        · have T0 : TwoP wr wr gp gr (readF lb) (readF lb) := ⟨p1.only hO fun q => by have := hown _ q; omega, p2.only hO fun q => by have := hown _ q; omega, Only.refl _ _⟩
          have hS0 := readF_sound hok hsl
          have hne : gp ≠ gr := by omega
          have hwp : w.heap.size ≤ gp := by omega
          have hwr : w.heap.size ≤ gr := by omega
          have h5 := h4.below (hO.below bw4.size fun b q => by have := hown b q; omega)
          have HXX := HX
          clear HX HXX hO bw4 h4 p1 p2 p3 p4 p5 hown hsl hok
          rename World => wz
          go_wp2_with fail
          go_loopw [11, 12, 13] (fun i _ _ wr => ∃ k : Nat, k ≤ l.length ∧ i = .int .i64 k ∧ ∃ f, Sound f ∧ TwoP wz wr gp gr f f) (fun i _ _ _ => l.length - (intOf i).toNat)
          case atStart => exact ⟨0, Nat.zero_le _, rfl, _, hS0, T0⟩
          case round =>
            clear T0 hS0
            obtain ⟨k, hk, rfl, f, hS, hT⟩ := hrel
            have hbw := hT.up bw5 hwp hwr
            have hww := hbw.size
            rcases Nat.lt_or_ge k l.length with hlt | hge
            · have e1 : decide ((k : Int) < (l.length : Int)) = true := by rw [decide_eq_true_iff]; omega
              have e2 : (0 : Int) ≤ (k : Int) := by omega
              have e3 : (k : Int) < (l.length : Int) := by omega
              obtain ⟨b, o, v0, v1, v2, v3, rfl, hbB, c0, c1, c2, c3, hv⟩ := (h5.below (hT.o.below (B := w.heap.size) bw5.size fun b e => by omega)) k hlt
              have hxd := hlight _ (List.getElem_mem hlt)
              have hxs := hsm _ (List.getElem_mem hlt)
              generalize l[k] = x at *
              have cD := does_any hT hS hne x v0 v1 v2 v3 w.heap.size hv ⟨hwp, hwr, hww⟩ hxd
              have hS2 := stepD_sound hS x hxs
              generalize stepD f x = f2 at *
              clear hv hT hS h5 hsm hlight
              go_wp2_with fail
              refine cD.mono ?_
              rintro e w6 ⟨rfl, hT4⟩
              have cL := alike_any hT4.p hT4.r hS2
              clear cD c0 c1 c2 c3
              go_wp2_with fail
              refine cL.mono ?_
              rintro e w7 ⟨rfl, b7⟩
              have HT := Lib.hid (hT4.below b7)
              clear cL hT4 b7 hbw
              go_wp2
              go_roundw
              case rel => exact ⟨k + 1, by omega, by go_num, f2, hS2, HT.out⟩
              case measure => simp [intOf]; omega
            · obtain rfl : k = l.length := by omega
              have e1 : decide ((l.length : Int) < (l.length : Int)) = false := by rw [decide_eq_false_iff_not]; omega
              have cL := alike_any hT.p hT.r hS
              clear h5 hsm hlight hT hS
              go_wp2_with fail
              refine cL.mono ?_
              rintro e w7 ⟨rfl, b7⟩
              go_wp2
              go_ret
              exact ⟨rfl, hbw.trans (b7.mono hww)⟩
        · clear HX hO h4 hown
          go_wp2
          go_ret
          exact ⟨rfl, bw5⟩
theorem pageReads_walk (v0 v1 : Value) (w : World) (w0 : IsBytes w v0) (w1 : IsOps w v1) :
    Calls Try.prog 7 #[v0, v1] w fun e w' => e = .returned (.bool true) ∧ Below w.heap.size w w' := by
  obtain ⟨A2, c2, d, rfl, hc, _, hd⟩ := w0
  obtain ⟨A, c, l, rfl, h⟩ := w1
  exact readsLaw_any A2 c2 d A c l w hd hc h
end Go.Proofs.Ytkknfccfgmflmaa
