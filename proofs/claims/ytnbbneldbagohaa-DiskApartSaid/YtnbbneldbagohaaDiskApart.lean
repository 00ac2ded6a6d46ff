/- The law DiskApart. Conditions: none. -/
import Derived.Test.YtnbbneldbagohaaDiskTwo
namespace Go.Proofs.Ytnbbneldbagohaa
open Go.ChangeShapes Go.WideShapes Go.ChangeAt Go.RowKit
set_option linter.unusedVariables false
set_option linter.unusedSimpArgs false
set_option maxRecDepth 20000

structure Ap (DA DB : DevP) : Prop where
  la : DA.left = none
  lb : DB.left = none
  same : DA.f 1 = DB.f 1
  len : (DA.f 1).length = 8
theorem Ap.one {DA DB : DevP} (h : Ap DA DB) {x : OpP} (hx : x.file = 1) : Ap (DA.plays x).2 (DB.plays x).2 :=
  ⟨plays_left h.la x, plays_left h.lb x, by have := plays_same h.la h.lb (x := x) (by rw [hx]; exact h.same); rwa [hx] at this, by rw [plays_length]; exact h.len⟩
theorem Ap.other {DA DB : DevP} (h : Ap DA DB) {x : OpP} (hx : x.file ≠ 1) : Ap (DA.plays x).2 DB :=
  ⟨plays_left h.la x, h.lb, by rw [plays_other h.la (fun e => hx e.symm)]; exact h.same, by rw [plays_length]; exact h.len⟩
def TrueBelow1 (w : World) (e : Ending) (w' : World) : Prop := e = .returned (.bool true) ∧ Below w.heap.size w w'
set_option maxHeartbeats 4000000 in
theorem apart_any (A : Option Addr) (c : Nat) (l : List OpP) (w : World) (h : OpsAt w w.heap.size A l) :
    Calls Try.prog 5 #[.slice A l.length c] w (TrueBelow1 w) := by
  go_enter Try.func5, Try.ntmps5
  go_wp2_with fail
  refine (heavy_any 8 8 A c l w.heap.size w h).mono ?_
  rintro e w1 ⟨⟨r, rfl, hr⟩, rfl⟩
  cases r with
  | true =>
    clear hr h
    go_wp2_with fail
    refine (known_any _).mono ?_
    rintro e w1 ⟨rfl, b1⟩
    go_wp2
    go_ret
    exact ⟨rfl, b1⟩
  | false =>
    obtain ⟨-, -, hlen, hlight⟩ := hr rfl
    clear hr
    go_wp2_with fail
    refine (known_any _).mono ?_
    rintro e w1 ⟨rfl, b1⟩
    go_wp2_with fail
    refine (new_any 8 8 w1).mono ?_
    rintro e w2 ⟨h2, -, b2⟩
    obtain ⟨p1, rfl, hd1⟩ := h2 ⟨⟨by omega, by omega⟩, ⟨by omega, by omega⟩⟩
    have hA := Dv.start (w0 := w) hd1 b1.size
    generalize hF1 : (fun x => w1.heap.size ≤ x ∧ x < w2.heap.size) = F1 at *
    clear h2 hd1 hF1
    have bw2 := b1.trans (b2.mono b1.size)
    obtain ⟨gp1, _, _, _, rfl, -⟩ := hA.dev
    go_wp2_with fail
    refine (new_any 8 8 w2).mono ?_
    rintro e w3 ⟨h3, -, b3⟩
    obtain ⟨p2, rfl, hd2⟩ := h3 ⟨⟨by omega, by omega⟩, ⟨by omega, by omega⟩⟩
    have hB := Dv.start (w0 := w) hd2 bw2.size
    have hdis : ∀ x, F1 x → (fun x => w2.heap.size ≤ x ∧ x < w3.heap.size) x → False := fun x q z => by have := hA.hi x q; omega
    generalize (fun x => w2.heap.size ≤ x ∧ x < w3.heap.size) = F2 at *
    have h2v : Dv2 (DevP.new 8 8) (DevP.new 8 8) w w3 F1 F2 _ _ := ⟨hA.below b3, hB, hdis⟩
    have hap : Ap (DevP.new 8 8) (DevP.new 8 8) := ⟨rfl, rfl, rfl, rfl⟩
    have hgd : (DevP.new 8 8).good 0 := DevP.good_new (by omega) (by omega)
    clear h3 hd2 hA hB hdis
    have bw3 := bw2.trans (b3.mono bw2.size)
    obtain ⟨gp2, _, _, _, rfl, -⟩ := h2v.b.dev
    clear b1 b2 b3 bw2
    go_wp2_with fail
    go_loopw [5, 6] (fun i _ wr => ∃ (k : Nat) (DA DB : DevP) (F1 F2 : Nat → Prop), k ≤ l.length ∧ i = .int .i64 k ∧ Dv2 DA DB w wr F1 F2 (.pointer (some ⟨gp1, 0, none⟩)) (.pointer (some ⟨gp2, 0, none⟩)) ∧ Ap DA DB ∧ DA.good k ∧ DB.good k ∧ Below w.heap.size w wr) (fun i _ _ => l.length - (intOf i).toNat)
    case atStart => exact ⟨0, _, _, F1, F2, by omega, rfl, h2v, hap, hgd, hgd, bw3⟩
    case round =>
      clear h2v hap hgd bw3
      obtain ⟨k, DA, DB, F1, F2, hk, rfl, hD, hap, hga, hgb, hb⟩ := hrel
      have hwr := hb.size
      rcases Nat.lt_or_ge k l.length with hlt | hge
      · have e1 : decide ((k : Int) < (l.length : Int)) = true := by rw [decide_eq_true_iff]; omega
        have e2 : (0 : Int) ≤ (k : Int) := by omega
        have e3 : (k : Int) < (l.length : Int) := by omega
        obtain ⟨b, o, v0, v1, v2, v3, v4, rfl, hbB, c0, c1, c2, c3, c4, hv⟩ := (h.below hb) k hlt
        have hv' := hv
        generalize l[k] = x at *
        obtain ⟨rfl, rfl, rfl, ⟨A3, n3, rfl, -, -⟩, ⟨A4, n4, rfl, -⟩, hx1, hx2, -⟩ := hv'
        obtain ⟨kb, hkb⟩ : ∃ kb, kb = Blk.new wr 41 #[.int .u8 x.kind, .int .u8 x.file, .int .i64 x.sector, .slice A3 x.data.length n3, .slice A4 x.fates.length n4] := ⟨_, rfl⟩
        clear hkb
        have a0 := (Below.refl wr.heap.size wr).alloc (Nat.le_refl _) (.cells #[.int .u8 x.kind, .int .u8 x.file, .int .i64 x.sector, .slice A3 x.data.length n3, .slice A4 x.fates.length n4] 41)
        have hD0 := hD.below a0
        have hv0 := hv.below (a0.mono hwr)
        have hnb1 : ¬ F1 wr.heap.size := fun q => by have := hD.a.hi _ q; omega
        have hb0 := hb.trans (a0.mono hwr)
        clear hD hv hb
        go_wp2_with fail
        generalize World.alloc wr _ = wa at *
        have q0 := kb.cell 0
        have q1 := kb.cell 1
        have q2 := kb.cell 2
        have q3 := kb.cell 3
        have q4 := kb.cell 4
        have hpl := plays_any hD0.a.dev hD0.a.hi hga (by omega) hb0.size hD0.a.lo x _ _ _ _ _ hv0
        refine hpl.mono ?_
        rintro e wp ⟨rfl, hp⟩
        obtain ⟨hDp, bp⟩ := hD0.postA hb0.size hp
        have kbp := kb.only hp.2 hnb1
        have hvp := hv0.below bp
        have hbp := hb0.trans bp
        have p0 := kbp.cell 0
        have p1 := kbp.cell 1
        have p2 := kbp.cell 2
        have p3 := kbp.cell 3
        have p4 := kbp.cell 4
        have hgap := hga.plays x
        have hgb1 := hgb.mono (Nat.le_succ k)
        clear hpl hp kb q0 q1 q2 q3 q4 hD0 bp kbp hb0 hga
        generalize grow F1 wa wp = F1' at *
        by_cases hf : x.file = 1
        · have hap1 := hap.one hf
          have t1 : ((x.file : Int) == 1) = true := by rw [hf]; rfl
          have hpl2 := plays_any hDp.b.dev hDp.b.hi hgb (by omega) hbp.size hDp.b.lo x _ _ _ _ _ hvp
          clear hf
          go_wp2_with fail
          refine hpl2.mono ?_
          rintro e wq ⟨rfl, hp2⟩
          obtain ⟨hDq, bq⟩ := hDp.postB hbp.size hp2
          have hbq := hbp.trans bq
          have hgbq := hgb.plays x
          clear hpl2 hp2
          go_wp2
          go_roundw
          case rel => exact ⟨k + 1, _, _, _, _, by omega, by go_num, hDq, hap1, hgap, hgbq, hbq⟩
          case measure => simp [intOf]; omega
        · have hap1 := hap.other hf
          have t1 : ((x.file : Int) == 1) = false := by rw [beq_eq_false_iff_ne]; omega
          clear hf
          go_wp2_with fail
          go_roundw
          case rel => exact ⟨k + 1, _, _, _, _, by omega, by go_num, hDp, hap1, hgap, hgb1, hbp⟩
          case measure => simp [intOf]; omega
      · obtain rfl : k = l.length := by omega
        have e1 : decide ((l.length : Int) < (l.length : Int)) = false := by rw [decide_eq_false_iff_not]; omega
        clear h hlight
        go_wp2_with fail
        go_loopw [7, 8, 9, 10, 11] (fun i _ _ _ _ wr => ∃ (k : Nat), k ≤ 8 ∧ i = .int .i64 k ∧ Dv2 DA DB w wr F1 F2 (.pointer (some ⟨gp1, 0, none⟩)) (.pointer (some ⟨gp2, 0, none⟩)) ∧ Below w.heap.size w wr) (fun i _ _ _ _ _ => 8 - (intOf i).toNat)
        case atStart => exact ⟨0, by omega, rfl, hD, hb⟩
        case round =>
          clear hD hb hwr
          obtain ⟨k, hk8, rfl, hD, hb⟩ := hrel
          have hwr := hb.size
          rcases Nat.lt_or_ge k 8 with hlt | hge
          · have e4 : decide ((k : Int) < 8) = true := by rw [decide_eq_true_iff]; omega
            have hhA : DA.has 1 k := ⟨by omega, by omega, by rw [hap.len]; omega⟩
            have hhB : DB.has 1 k := ⟨by omega, by omega, by rw [← hap.same, hap.len]; omega⟩
            have hsec : DA.sect 1 k = DB.sect 1 k := by unfold DevP.sect; rw [hap.same]
            have hrA : DA.read 1 k = ((DA.sect 1 k).newest, 0) := by unfold DevP.read; rw [if_pos hhA, Int.toNat_natCast]
            have hrB : DB.read 1 k = ((DA.sect 1 k).newest, 0) := by unfold DevP.read; rw [if_pos hhB, Int.toNat_natCast, hsec]
            have hwA : DA.waits 1 k = (DA.sect 1 k).waits.length := by unfold DevP.waits; rw [if_pos hhA, Int.toNat_natCast]
            have hwB : DB.waits 1 k = (DA.sect 1 k).waits.length := by unfold DevP.waits; rw [if_pos hhB, Int.toNat_natCast, hsec]
            have cA := read_any hD.a.dev hga (by omega) 1 (by omega) (k : Int)
            rw [hrA] at cA
            generalize DA.sect 1 k = sc at *
            clear hsec hhA hhB hrA
            go_wp2_with fail
            refine cA.mono ?_
            rintro e w4 ⟨A4, n4, rfl, o4, b4, s4⟩
            have hD4 := hD.below b4
            have x4 := own_bytes o4 s4
            have hb4 := hb.trans (b4.mono hwr)
            have cB := read_any hD4.b.dev hgb (by omega) 1 (by omega) (k : Int)
            rw [hrB] at cB
            clear hrB cA o4 s4 b4 hD hb
            go_wp2_with fail
            refine cB.mono ?_
            rintro e w5 ⟨A5, n5, rfl, o5, b5, s5⟩
            have hD5 := hD4.below b5
            have x5 := own_bytes o5 s5
            have x4' := (x4.below b5).more b5.size
            have hb5 := hb4.trans (b5.mono hb4.size)
            have cS := same_any A4 A5 n4 n5 sc.newest sc.newest w5.heap.size w5 x4' x5
            rw [decide_eq_true (show sc.newest = sc.newest from rfl)] at cS
            have wA := waits_any hD5.a.dev hga 1 (by omega) (k : Int)
            have wB := waits_any hD5.b.dev hgb 1 (by omega) (k : Int)
            rw [hwA] at wA
            rw [hwB] at wB
            clear hwA hwB cB o5 s5 b5 hD4 hb4 x4 x4' x5
            go_wp2_with fail
            refine cS.mono ?_
            rintro e w6 ⟨rfl, rfl⟩
            go_wp2_with fail
            refine wA.mono ?_
            rintro e w6 ⟨rfl, rfl⟩
            go_wp2_with fail
            refine wB.mono ?_
            rintro e w6 ⟨rfl, rfl⟩
            clear cS wA wB
            go_wp2
            go_roundw
            case rel => exact ⟨k + 1, by omega, by go_num, hD5, hb5⟩
            case measure => simp [intOf]; omega
          · obtain rfl : k = 8 := by omega
            have e4 : decide (((8 : Nat) : Int) < 8) = false := rfl
            have him : DB.image 1 = DA.image 1 := by unfold DevP.image; rw [hap.same]
            have cA := image_any hD.a.dev hga 1 (by omega)
            go_wp2_with fail
            refine cA.mono ?_
            rintro e w4 hret
            obtain ⟨A4, n4, L4, rfl, o4, r4, b4, at4, re4⟩ := hret.is
            have hD4 := hD.below b4
            have hb4 := hb.trans (b4.mono hwr)
            have cB := image_any hD4.b.dev hgb 1 (by omega)
            rw [him] at cB
            clear hret cA o4 r4 b4 hD hb
            go_wp2_with fail
            refine cB.mono ?_
            rintro e w5 hret
            obtain ⟨A5, n5, L5, rfl, o5, r5, b5, at5, re5⟩ := hret.is
            have hb5 := hb4.trans (b5.mono hb4.size)
            have at4' := (at4.below b5).more b5.size
            have re4' := (re4.below b5).more b5.size
            have hil : (DA.image 1).length ≤ 100000 := by
              unfold DevP.image
              rw [if_pos (by omega), List.length_map, hap.len]
              omega
            have cS := blocks_any A4 A5 n4 n5 L4 L5 (DA.image 1) (DA.image 1) w5.heap.size w5 at4' at5 re4' re5 hil
            rw [decide_eq_true (show DA.image 1 = DA.image 1 from rfl)] at cS
            clear hret cB o5 r5 b5 hD4 hb4 at4 re4 at4' re4' at5 re5 him hil
            go_wp2_with fail
            refine cS.mono ?_
            rintro e w6 ⟨rfl, hd⟩
            have hb6 := hb5.trans ((hd.below w5.heap.size).mono hb5.size)
            clear cS hd
            go_wp2
            go_ret
            exact ⟨rfl, hb6⟩
theorem diskApart_walk (v0 : Value) (w : World) (w0 : IsOps w v0) :
    Calls Try.prog 5 #[v0] w fun e w' => e = .returned (.bool true) ∧ Below w.heap.size w w' := by
  obtain ⟨A, c, l, rfl, h⟩ := w0
  exact apart_any A c l w h
end Go.Proofs.Ytnbbneldbagohaa
