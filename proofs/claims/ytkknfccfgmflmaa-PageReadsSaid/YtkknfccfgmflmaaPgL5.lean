/- The law PageDoes. Conditions: none. -/
import Derived.Test.YtkknfccfgmflmaaPgRefE
namespace Go.Proofs.Ytkknfccfgmflmaa
open Go.ChangeShapes Go.WideShapes Go.ChangeAt Go.RowKit
open NumMath
set_option linter.unusedVariables false
set_option linter.unusedSimpArgs false
set_option maxRecDepth 20000

theorem TwoP.up {w w0 wr : World} {gp gr : Nat} {f g : Nat → Nat} (h : TwoP w0 wr gp gr f g) (hb : Below w.heap.size w w0) (h1 : w.heap.size ≤ gp) (h2 : w.heap.size ≤ gr) : Below w.heap.size w wr :=
  hb.trans (h.o.below hb.size fun b e => by omega)
set_option maxHeartbeats 8000000 in
theorem doesLaw_any (n : Nat) (hn : n < 4294967296) (A : Option Addr) (c : Nat) (l : List OpP) (w : World) (h : OpsAt w w.heap.size A l) :
    Calls Try.prog 5 #[.int .u32 n, .slice A l.length c] w (TrueB w) := by
  have hsm := ops_small h
  go_enter Try.func5, Try.ntmps5
  go_wp2_with fail
  refine (heavy_any A c l w.heap.size w h).mono ?_
  rintro e w1 ⟨⟨r, rfl, hr⟩, rfl⟩
  cases r with
  | true =>
    clear hr h
    go_wp2_with fail
    refine (known_any _).mono ?_
    rintro e w1 ⟨rfl, b1⟩
    go_wp2
    go_ret
    exact ⟨rfl, b1⟩
  | false =>
    obtain ⟨hlen, hlight⟩ := hr rfl
    clear hr
    go_wp2_with fail
    refine (known_any _).mono ?_
    rintro e w1 ⟨rfl, b1⟩
    go_wp2_with fail
    refine (new_any n hn w1).mono ?_
    rintro e w2 ⟨rfl, hp2, b2⟩
    have bw2 := b1.trans (b2.mono b1.size)
    have hs1 := b1.size
    have hlt2 := hp2.lt
    go_wp2_with fail
    refine (rnew_any n hn w2).mono ?_
    rintro e w3 ⟨rfl, hr3, b3⟩
    have bw3 := bw2.trans (b3.mono bw2.size)
    have hp3 := hp2.below b3
    obtain ⟨gp, hgp⟩ : ∃ gp, w1.heap.size = gp := ⟨_, rfl⟩
    obtain ⟨gr, hgr⟩ : ∃ gr, w2.heap.size = gr := ⟨_, rfl⟩
    rw [hgp] at hp3 hlt2 ⊢
    rw [hgr] at hr3 hlt2 ⊢
    have hne : gp ≠ gr := by omega
    have hwp : w.heap.size ≤ gp := by omega
    have hwr : w.heap.size ≤ gr := by omega
    have hS0 := (new_sound n).1
    have ht0 : toR (newF n) = rpZero n := toR_new n hn
    have T0 : TwoP w3 w3 gp gr (newF n) (newF n) := ⟨hp3, by rw [ht0]; exact hr3, Only.refl _ _⟩
    have h3 := h.below bw3
    clear h b1 b2 b3 bw2 hp2 hp3 hr3 hgp hgr ht0 hs1
    go_wp2_with fail
    go_loopw [7, 8, 9] (fun i _ _ wr => ∃ k : Nat, k ≤ l.length ∧ i = .int .i64 k ∧ ∃ f, Sound f ∧ TwoP w3 wr gp gr f f) (fun i _ _ _ => l.length - (intOf i).toNat)
    case atStart => exact ⟨0, Nat.zero_le _, rfl, newF n, hS0, T0⟩
    case round =>
      clear T0 hS0
      obtain ⟨k, hk, rfl, f, hS, hT⟩ := hrel
      have hbw := hT.up bw3 hwp hwr
      have hww := hbw.size
      rcases Nat.lt_or_ge k l.length with hlt | hge
      · have e1 : decide ((k : Int) < (l.length : Int)) = true := by rw [decide_eq_true_iff]; omega
        have e2 : (0 : Int) ≤ (k : Int) := by omega
        have e3 : (k : Int) < (l.length : Int) := by omega
        obtain ⟨b, o, v0, v1, v2, v3, rfl, hbB, c0, c1, c2, c3, hv⟩ := (h3.below (hT.o.below (B := w.heap.size) bw3.size fun b e => by omega)) k hlt
        have hxd := hlight _ (List.getElem_mem hlt)
        have hxs := hsm _ (List.getElem_mem hlt)
        generalize l[k] = x at *
        have cD := does_any hT hS hne x v0 v1 v2 v3 w.heap.size hv ⟨hwp, hwr, hww⟩ hxd
        have hS2 := stepD_sound hS x hxs
        generalize stepD f x = f2 at *
        clear hv hT hS h3 hsm hlight
        go_wp2_with fail
        refine cD.mono ?_
        rintro e w4 ⟨rfl, hT4⟩
        have cL := alike_any hT4.p hT4.r hS2
        clear cD c0 c1 c2 c3
        go_wp2_with fail
        refine cL.mono ?_
        rintro e w5 ⟨rfl, b5⟩
        have HT := Lib.hid (hT4.below b5)
        clear cL hT4 b5 hbw
        go_wp2
        go_roundw
        case rel => exact ⟨k + 1, by omega, by go_num, f2, hS2, HT.out⟩
        case measure => simp [intOf]; omega
      · obtain rfl : k = l.length := by omega
        have e1 : decide ((l.length : Int) < (l.length : Int)) = false := by rw [decide_eq_false_iff_not]; omega
        have cL := alike_any hT.p hT.r hS
        clear h3 hsm hlight hT hS
        go_wp2_with fail
        refine cL.mono ?_
        rintro e w5 ⟨rfl, b5⟩
        go_wp2
        go_ret
        exact ⟨rfl, hbw.trans (b5.mono hww)⟩
theorem pageDoes_walk (v0 v1 : Value) (w : World) (w0 : IsInt .u32 w v0) (w1 : IsOps w v1) :
    Calls Try.prog 5 #[v0, v1] w fun e w' => e = .returned (.bool true) ∧ Below w.heap.size w w' := by
  obtain ⟨a, rfl, ha⟩ := w0
  obtain ⟨n, rfl, hn⟩ := nat_u32 ha
  obtain ⟨A, c, l, rfl, h⟩ := w1
  exact doesLaw_any n hn A c l w h
end Go.Proofs.Ytkknfccfgmflmaa
