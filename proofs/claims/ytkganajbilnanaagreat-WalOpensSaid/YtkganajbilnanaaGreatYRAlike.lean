/- A device of the program's and the document's beside each other. Conditions: none. -/
import Derived.Test.YtkganajbilnanaaGreatYRSync
set_option linter.unusedVariables false
set_option linter.unusedSimpArgs false
namespace Go.Proofs.YtkganajbilnanaaGreat
open Go.ChangeShapes Go.WideShapes Go.ChangeAt Go.RowKit
structure Rv (D : DevP) (w0 w : World) (F : Nat → Prop) (p : Value) : Prop where
  dev : IsRDev D w F p
  hi : ∀ b, F b → b < w.heap.size
  lo : ∀ b, F b → w0.heap.size ≤ b
structure DvR (DA DB : DevP) (w0 w : World) (F1 F2 : Nat → Prop) (p1 p2 : Value) : Prop where
  a : Dv DA w0 w F1 p1
  b : Rv DB w0 w F2 p2
  dis : ∀ x, F1 x → F2 x → False
section
variable {D D' DA DB : DevP} {w0 w w' : World} {F F1 F2 S : Nat → Prop} {p p1 p2 : Value}
theorem Rv.below (h : Rv D w0 w F p) (hb : Below w.heap.size w w') : Rv D w0 w' F p := ⟨h.dev.below hb, fun b q => Nat.lt_of_lt_of_le (h.hi b q) hb.size, h.lo⟩
theorem DvR.below (h : DvR DA DB w0 w F1 F2 p1 p2) (hb : Below w.heap.size w w') : DvR DA DB w0 w' F1 F2 p1 p2 := ⟨h.a.below hb, h.b.below hb, h.dis⟩
end
end Go.Proofs.YtkganajbilnanaaGreat
namespace Go.Proofs.YtkganajbilnanaaGreat
open Go.ChangeShapes Go.WideShapes Go.ChangeAt Go.RowKit
set_option maxRecDepth 20000
theorem image_len {D : DevP} {N : Nat} (hG : D.good N) (n : Nat) : (D.image n).length ≤ 100000 := by
  unfold DevP.image
  split
  · rename_i h
    rw [List.length_map]
    have := (hG n h).1
    omega
  · simp
set_option maxHeartbeats 4000000 in
theorem alike_any {D : DevP} {w0 w : World} {F1 F2 : Nat → Prop} {gp gr : Nat} (h : DvR D D w0 w F1 F2 (.pointer (some ⟨gp, 0, none⟩)) (.pointer (some ⟨gr, 0, none⟩))) {N : Nat} (hG : D.good N) (hN : N ≤ 100000) :
    Calls Tryz.prog 39 #[.pointer (some ⟨gp, 0, none⟩), .pointer (some ⟨gr, 0, none⟩)] w fun e w' => e = .returned (.bool true) ∧ Below w.heap.size w w' := by
  go_enter Tryz.func39, Tryz.ntmps39
  go_wp2_with fail
  go_loopw [5, 6, 7, 8, 9, 10] (fun v _ _ _ _ _ wr => ∃ q : Nat, q ≤ 2 ∧ v = .int .u8 q ∧ Below w.heap.size w wr) (fun v _ _ _ _ _ _ => 2 - (intOf v).toNat)
  case atStart => exact ⟨0, by omega, rfl, Below.refl _ _⟩
  case round =>
    obtain ⟨q, hq, rfl, hb⟩ := hrel
    have hD := h.below hb
    rcases Nat.lt_or_ge q 2 with hlt | hge
    · have e1 : decide ((q : Int) < 2) = true := by rw [decide_eq_true_iff]; omega
      have hwk : IntKind.u8.wrap ((q : Int) + 1) = (q : Int) + 1 := by rw [IntKind.wrap_u8]; omega
      have HB := Lib.hid hb
      clear hb
      rename World => w1
      go_wp2_with fail
      go_loopw [6, 7, 8, 9, 10] (fun i _ _ _ _ wr => ∃ k : Nat, k ≤ D.size q ∧ i = .int .i64 k ∧ Below w1.heap.size w1 wr) (fun i _ _ _ _ _ => D.size q - (intOf i).toNat)
      case atStart => exact ⟨0, Nat.zero_le _, rfl, Below.refl _ _⟩
      case round =>
        obtain ⟨k, hk, rfl, hb⟩ := hrel
        have hDr := hD.below hb
        have cs := rsize_any hDr.b.dev q (by omega)
        have hsz : D.size q ≤ 4096 := by
          have := (hG q hlt).1
          unfold DevP.size
          rw [if_pos hlt]
          exact this
        generalize hm : D.size q = m at *
        rcases Nat.lt_or_ge k m with hlt2 | hge2
        · have e2 : decide ((k : Int) < (m : Int)) = true := by rw [decide_eq_true_iff]; omega
          go_wp2_with fail
          refine cs.mono ?_
          rintro e w2 ⟨rfl, rfl⟩
          clear cs
          have cA := read_any hDr.a.dev hG hN q (by omega) k
          go_wp2_with fail
          refine cA.mono ?_
          rintro e w3 ⟨A4, n4, rfl, o4, b4, s4⟩
          have hD3 := hDr.below b4
          have x4 := own_bytes o4 s4
          have hb3 := hb.trans (b4.mono hb.size)
          have cB := rread_any hD3.b.dev hG hN q (by omega) k
          clear cA o4 s4 b4 hDr hb
          go_wp2_with fail
          refine cB.mono ?_
          rintro e w4 ⟨A5, n5, rfl, o5, b5, s5⟩
          have hD4 := hD3.below b5
          have x5 := own_bytes o5 s5
          have x4' := (x4.below b5).more b5.size
          have hb4 := hb3.trans (b5.mono hb3.size)
          clear cB o5 s5 b5 hD3 hb3 x4
          generalize (D.read q (k : Nat)).1 = rl at *
          generalize (D.read q (k : Nat)).2 = rn at *
          have cT := same_any A4 A5 n4 n5 rl rl w4.heap.size w4 x4' x5
          rw [decide_eq_true (show rl = rl from rfl)] at cT
          have cW := waits_any hD4.a.dev hG q (by omega) k
          have cV := rwaits_any hD4.b.dev hG q (by omega) k
          generalize D.waits q (k : Nat) = wn at *
          go_wp2_with fail
          refine cT.mono ?_
          rintro e w5 ⟨rfl, rfl⟩
          clear cT
          go_wp2_with fail
          refine cW.mono ?_
          rintro e w5 ⟨rfl, rfl⟩
          clear cW
          go_wp2_with fail
          refine cV.mono ?_
          rintro e w5 ⟨rfl, rfl⟩
          clear cV
          go_wp2
          go_roundw
          case rel => exact ⟨k + 1, by omega, by go_num, hb4⟩
          case measure => simp [intOf]; omega
        · obtain rfl : k = m := by omega
          have e2 : decide ((k : Int) < (k : Int)) = false := by rw [decide_eq_false_iff_not]; omega
          go_wp2_with fail
          refine cs.mono ?_
          rintro e w2 ⟨rfl, rfl⟩
          clear cs
          have cA := image_any hDr.a.dev hG q (by omega)
          go_wp2_with fail
          refine cA.mono ?_
          rintro e w5 hret
          obtain ⟨A4, n4, L4, rfl, o4, r4, b4, at4, re4⟩ := hret.is
          have hD4 := hDr.below b4
          have hb4 := hb.trans (b4.mono hb.size)
          have cB := rimage_any hD4.b.dev hG q (by omega)
          clear hret cA o4 r4 hDr hb
          go_wp2_with fail
          refine cB.mono ?_
          rintro e w6 hret
          obtain ⟨A5, n5, L5, rfl, o5, r5, b5, at5, re5⟩ := hret.is
          have hD5 := hD4.below b5
          have hb5 := hb4.trans (b5.mono hb4.size)
          have at4' := (at4.below b5).more b5.size
          have re4' := (re4.below b5).more b5.size
          have hil := image_len hG q
          have cS := blocks_any A4 A5 n4 n5 L4 L5 (D.image q) (D.image q) w6.heap.size w6 at4' at5 re4' re5 hil
          rw [decide_eq_true (show D.image q = D.image q from rfl)] at cS
          clear hret cB o5 r5 b5 b4 hD4 hb4 at4 re4 at4' re4' at5 re5 hil
          generalize D.image q = im at *
          go_wp2_with fail
          refine cS.mono ?_
          rintro e w7 ⟨rfl, hd⟩
          have hD7 := hD5.below (hd.below w6.heap.size)
          have hb7 := HB.out.trans ((hb5.trans ((hd.below w6.heap.size).mono hb5.size)).mono HB.out.size)
          clear cS hd hD5 hb5
          have cW := sizes_any hD7.a.dev q (by omega)
          have cV := rsize_any hD7.b.dev q (by omega)
          rw [hm] at cW cV
          go_wp2_with fail
          refine cW.mono ?_
          rintro e w8 ⟨rfl, rfl⟩
          clear cW
          go_wp2_with fail
          refine cV.mono ?_
          rintro e w8 ⟨rfl, rfl⟩
          clear cV
          go_wp2
          go_roundw
          case rel => exact ⟨q + 1, by omega, by go_num, hb7⟩
          case measure => simp [intOf]; omega
    · obtain rfl : q = 2 := by omega
      have e1 : decide (((2 : Nat) : Int) < 2) = false := rfl
      have cA := haltedd_any hD.a.dev
      have cB := rhalted_any hD.b.dev
      generalize D.halted = hl at *
      go_wp2_with fail
      refine cA.mono ?_
      rintro e w8 ⟨rfl, rfl⟩
      clear cA
      go_wp2_with fail
      refine cB.mono ?_
      rintro e w8 ⟨rfl, rfl⟩
      clear cB
      go_wp2
      go_ret
      exact ⟨by simp, hb⟩
end Go.Proofs.YtkganajbilnanaaGreat
