/- The law DiskDoes. Conditions: none. -/
import Derived.Test.YtnbbneldbagohaaRDoes
import Derived.Test.YtnbbneldbagohaaRAlike
namespace Go.Proofs.Ytnbbneldbagohaa
open Go.ChangeShapes Go.WideShapes Go.ChangeAt Go.RowKit
set_option linter.unusedVariables false
set_option linter.unusedSimpArgs false
set_option maxRecDepth 20000

def TrueB (w : World) (e : Ending) (w' : World) : Prop := e = .returned (.bool true) ∧ Below w.heap.size w w'
set_option maxHeartbeats 8000000 in
theorem doesLaw_any (a b : Int) (A : Option Addr) (c : Nat) (l : List OpP) (w : World) (h : OpsAt w w.heap.size A l) :
    Calls Try.prog 6 #[.int .i64 a, .int .i64 b, .slice A l.length c] w (TrueB w) := by
  go_enter Try.func6, Try.ntmps6
  go_wp2_with fail
  refine (heavy_any a b A c l w.heap.size w h).mono ?_
  rintro e w1 ⟨⟨r, rfl, hr⟩, rfl⟩
  cases r with
  | true =>
    clear hr h
    go_wp2_with fail
    refine (known_any _).mono ?_
    rintro e w1 ⟨rfl, b1⟩
    go_wp2
    go_ret
    exact ⟨rfl, b1⟩
  | false =>
    obtain ⟨-, -, hlen, hlight⟩ := hr rfl
    clear hr
    go_wp2_with fail
    refine (known_any _).mono ?_
    rintro e w1 ⟨rfl, b1⟩
    go_wp2_with fail
    refine (new_any a b w1).mono ?_
    rintro e w2 ⟨h2, h2n, b2⟩
    have bw2 := b1.trans (b2.mono b1.size)
    by_cases hok : okN a ∧ okN b
    · obtain ⟨p1, rfl, hd1⟩ := h2 hok
      have hA := Dv.start (w0 := w) hd1 b1.size
      generalize hF1 : (fun x => w1.heap.size ≤ x ∧ x < w2.heap.size) = F1 at *
      clear h2 h2n hd1 hF1
      obtain ⟨gp1, _, _, _, rfl, -⟩ := hA.dev
      go_wp2_with fail
      refine (rnew_any a b w2).mono ?_
      rintro e w3 ⟨h3, -, b3⟩
      obtain ⟨p2, rfl, hd2⟩ := h3 hok
      have hB := Rv.start (w0 := w) hd2 bw2.size
      have hdis : ∀ x, F1 x → (fun x => w2.heap.size ≤ x ∧ x < w3.heap.size) x → False := fun x q z => by have := hA.hi x q; omega
      generalize (fun x => w2.heap.size ≤ x ∧ x < w3.heap.size) = F2 at *
      have h2v : DvR (DevP.new a.toNat b.toNat) (DevP.new a.toNat b.toNat) w w3 F1 F2 _ _ := ⟨hA.below b3, hB, hdis⟩
      have hgd : (DevP.new a.toNat b.toNat).good 0 := DevP.good_new (by have := hok.1.2; omega) (by have := hok.2.2; omega)
      clear h3 hd2 hA hB hdis
      have bw3 := bw2.trans (b3.mono bw2.size)
      obtain ⟨gp2, _, _, _, rfl, -⟩ := h2v.b.dev
      clear b1 b2 b3 bw2
      generalize DevP.new a.toNat b.toNat = D0 at *
      go_wp2_with fail
      go_loopw [9, 10, 11] (fun i _ _ wr => ∃ (k : Nat) (D : DevP) (F1 F2 : Nat → Prop), k ≤ l.length ∧ i = .int .i64 k ∧ DvR D D w wr F1 F2 (.pointer (some ⟨gp1, 0, none⟩)) (.pointer (some ⟨gp2, 0, none⟩)) ∧ D.good k ∧ Below w.heap.size w wr) (fun i _ _ _ => l.length - (intOf i).toNat)
      case atStart => exact ⟨0, D0, F1, F2, by omega, rfl, h2v, hgd, bw3⟩
      case round =>
        clear h2v hgd bw3
        obtain ⟨k, D, F1, F2, hk, rfl, hD, hG, hb⟩ := hrel
        have hwr := hb.size
        rcases Nat.lt_or_ge k l.length with hlt | hge
        · have e1 : decide ((k : Int) < (l.length : Int)) = true := by rw [decide_eq_true_iff]; omega
          have e2 : (0 : Int) ≤ (k : Int) := by omega
          have e3 : (k : Int) < (l.length : Int) := by omega
          obtain ⟨hl1, hl2⟩ := hlight _ (List.getElem_mem hlt)
          obtain ⟨b, o, v0, v1, v2, v3, v4, rfl, hbB, c0, c1, c2, c3, c4, hv⟩ := (h.below hb) k hlt
          generalize l[k] = x at *
          have cD := does_any hD hwr hG hG (by omega) x v0 v1 v2 v3 v4 hv (by omega) (by omega)
          clear hD hv
          go_wp2_with fail
          refine cD.mono ?_
          rintro e w5 ⟨ok, rfl, hok2, ⟨F1', F2', hD5⟩, b5⟩
          obtain rfl : ok = true := hok2 rfl
          have hb5 := hb.trans b5
          have hG5 := hG.doesP x
          generalize D.doesP x = D5 at *
          have cA := alike_any hD5 hG5 (by omega)
          clear cD hb b5 hok2
          go_wp2_with fail
          refine cA.mono ?_
          rintro e w6 ⟨rfl, b6⟩
          have hD6 := hD5.below b6
          have hb6 := hb5.trans (b6.mono hb5.size)
          clear cA hD5 hb5 b6
          go_wp2
          go_roundw
          case rel => exact ⟨k + 1, D5, F1', F2', by omega, by go_num, hD6, hG5, hb6⟩
          case measure => simp [intOf]; omega
        · obtain rfl : k = l.length := by omega
          have e1 : decide ((l.length : Int) < (l.length : Int)) = false := by rw [decide_eq_false_iff_not]; omega
          have cA := alike_any hD hG (by omega)
          clear h hlight
          go_wp2_with fail
          refine cA.mono ?_
          rintro e w6 ⟨rfl, b6⟩
          have hb6 := hb.trans (b6.mono hb.size)
          clear cA hD hb b6
          go_wp2
          go_ret
          exact ⟨rfl, hb6⟩
    · obtain rfl := h2n hok
      clear h2 h2n h hlight
      go_wp2_with fail
      refine (rnew_any a b w2).mono ?_
      rintro e w3 ⟨-, h3, b3⟩
      obtain rfl := h3 hok
      have bw3 := bw2.trans (b3.mono bw2.size)
      clear h3 hok b1 b2 b3 bw2
      go_wp2
      go_ret
      exact ⟨rfl, bw3⟩
theorem diskDoes_walk (v0 v1 v2 : Value) (w : World) (w0 : IsInt .i64 w v0) (w1 : IsInt .i64 w v1) (w2 : IsOps w v2) :
    Calls Try.prog 6 #[v0, v1, v2] w fun e w' => e = .returned (.bool true) ∧ Below w.heap.size w w' := by
  obtain ⟨a, rfl, ha⟩ := w0
  obtain ⟨b, rfl, hb⟩ := w1
  obtain ⟨A, c, l, rfl, h⟩ := w2
  exact doesLaw_any a b A c l w h
end Go.Proofs.Ytnbbneldbagohaa
