/- The law's helper does. Conditions: both devices hold the same. -/
import Derived.Test.YtnbbneldbagohaaRTwo
namespace Go.Proofs.Ytnbbneldbagohaa
open Go.ChangeShapes Go.WideShapes Go.ChangeAt Go.RowKit
set_option linter.unusedVariables false
set_option linter.unusedSimpArgs false
set_option maxRecDepth 20000

def DoesPost (D DB : DevP) (x : OpP) (w0 w : World) (p r : Value) (e : Ending) (w' : World) : Prop := ∃ ok : Bool, e = .returned (.bool ok) ∧ (D = DB → ok = true) ∧ (∃ F1 F2, DvR (D.doesP x) (DB.doesP x) w0 w' F1 F2 p r) ∧ Below w0.heap.size w w'
theorem own_in {w w' : World} {S : Nat → Prop} {A : Option Addr} {n c : Nat} {l : List Nat} (h : w'.ownsRow w.heap.size 5 1 (.slice A n c) n (l.map byteV)) (hs : Small l) (hS : ∀ b, w.heap.size ≤ b → S b) : BytesIn w' S A l :=
  ⟨(AtIn.own h).mono fun b q => hS b (h.lt b q.symm).1, hs⟩
set_option maxHeartbeats 4000000 in
theorem does_halt {D DB : DevP} {w0 w : World} {F1 F2 : Nat → Prop} {gp gr : Nat} (h : DvR D DB w0 w F1 F2 (.pointer (some ⟨gp, 0, none⟩)) (.pointer (some ⟨gr, 0, none⟩))) (hw : w0.heap.size ≤ w.heap.size) {N : Nat} (hG : D.good N) (hGB : DB.good N) (hN : N ≤ 90000) (x : OpP) (v0 v1 v2 v3 v4 : Value) (hx : OpV w w0.heap.size x v0 v1 v2 v3 v4) (hf : x.fates.length ≤ 100000) (hd : x.data.length ≤ 100000) (hm : x.kind % 9 = 8) :
    Calls Try.prog 24 #[.pointer (some ⟨gp, 0, none⟩), .pointer (some ⟨gr, 0, none⟩), .agg #[v0, v1, v2, v3, v4]] w (DoesPost D DB x w0 w (.pointer (some ⟨gp, 0, none⟩)) (.pointer (some ⟨gr, 0, none⟩))) := by
  obtain ⟨rfl, rfl, rfl, ⟨A3, c3, rfl, hc3, b3⟩, ⟨A4, c4, rfl, b4⟩, hk, hfl, hs⟩ := hx
  obtain ⟨kind, file, sector, data, fates⟩ := x
  simp only at hk hfl hs b3 b4 hc3 hf hd hm ⊢
  have kb := Blk.new w 41 #[.int .u8 kind, .int .u8 file, .int .i64 sector, .slice A3 data.length c3, .slice A4 fates.length c4]
  have a0 := (Below.refl w.heap.size w).alloc (Nat.le_refl _) (.cells #[.int .u8 kind, .int .u8 file, .int .i64 sector, .slice A3 data.length c3, .slice A4 fates.length c4] 41)
  have hD0 := h.below a0
  have hn1 : ¬ F1 w.heap.size := fun q => by have := h.a.hi _ q; omega
  have hn2 : ¬ F2 w.heap.size := fun q => by have := h.b.hi _ q; omega
  have y3 := b3.below (a0.mono hw)
  have y4 := b4.below (a0.mono hw)
  have hw1 := Nat.le_trans hw a0.size
  have hb1 := a0.mono hw
  have hsx : sector < 9223372036854775808 := by have := bounds_i64 hs; omega
  have r1 : (kind : Int) % 9 = 8 := by omega
  have r2 : Int.tmod (kind : Int) 9 = 8 := by rw [Int.tmod_eq_emod_of_nonneg (by omega)]; exact r1
  have hP : ∀ D : DevP, D.doesP ⟨kind, file, sector, data, fates⟩ = D.halt sector := fun D => by
    unfold DevP.doesP
    simp only [hm]
    rfl
  rw [show DoesPost D DB ⟨kind, file, sector, data, fates⟩ w0 w (.pointer (some ⟨gp, 0, none⟩)) (.pointer (some ⟨gr, 0, none⟩)) = fun e w' => ∃ ok : Bool, e = .returned (.bool ok) ∧ (D = DB → ok = true) ∧ (∃ F1 F2, DvR (D.halt sector) (DB.halt sector) w0 w' F1 F2 (.pointer (some ⟨gp, 0, none⟩)) (.pointer (some ⟨gr, 0, none⟩))) ∧ Below w0.heap.size w w' by funext e w'; unfold DoesPost; rw [hP, hP]]
  clear hP hm h b3 b4 hc3
  go_enter Try.func24, Try.ntmps24
  go_upto_region 1 with fail
  generalize World.alloc w _ = w1 at *
  have q0 := kb.cell 0
  have q1 := kb.cell 1
  have q2 := kb.cell 2
  have q4 := kb.cell 4
  have cA := haltd_any hD0.a.dev hD0.a.hi sector hsx
  go_wp2_with fail
  refine cA.mono ?_
  rintro e w2 ⟨rfl, hp⟩
  obtain ⟨hD2, bp⟩ := hD0.postA hw1 hp
  have kb2 := kb.only hp.2 hn1
  have hb2 := hb1.trans bp
  have hw2 := hb2.size
  have hw2' := Nat.le_trans hw hw2
  have y5 := y4.below bp
  have p1 := kb2.cell 1
  have p2 := kb2.cell 2
  have p4 := kb2.cell 4
  clear cA hp kb q0 q1 q2 q4 hD0 bp hb1 y4
  generalize grow F1 w1 w2 = F1' at *
  have cB := rhalt_any hD2.b.dev sector hsx
  go_wp2_with fail
  refine cB.mono ?_
  rintro e w3 ⟨rfl, hp⟩
  obtain ⟨hD3, bp⟩ := hD2.postB hw2' hp
  have hb3 := hb2.trans bp
  clear cB hp kb2 p1 p2 p4 hD2 bp hb2
  have cA := haltedd_any hD3.a.dev
  have cB := rhalted_any hD3.b.dev
  have hq : D = DB → (D.halt sector).halted = (DB.halt sector).halted := fun z => by rw [z]
  generalize (D.halt sector).halted = hl at cA hq
  generalize (DB.halt sector).halted = hl2 at cB hq
  have HQ := Lib.hid hq
  clear hq
  go_wp2_with fail
  refine cA.mono ?_
  rintro e w8 ⟨rfl, rfl⟩
  clear cA
  go_wp2_with fail
  refine cB.mono ?_
  rintro e w8 ⟨rfl, rfl⟩
  clear cB
  go_wp2
  go_ret
  exact ⟨_, rfl, fun z => by rw [HQ.out z]; simp, ⟨_, _, hD3⟩, hb3⟩
set_option maxHeartbeats 4000000 in
theorem does_sync {D DB : DevP} {w0 w : World} {F1 F2 : Nat → Prop} {gp gr : Nat} (h : DvR D DB w0 w F1 F2 (.pointer (some ⟨gp, 0, none⟩)) (.pointer (some ⟨gr, 0, none⟩))) (hw : w0.heap.size ≤ w.heap.size) {N : Nat} (hG : D.good N) (hGB : DB.good N) (hN : N ≤ 90000) (x : OpP) (v0 v1 v2 v3 v4 : Value) (hx : OpV w w0.heap.size x v0 v1 v2 v3 v4) (hf : x.fates.length ≤ 100000) (hd : x.data.length ≤ 100000) (hm : x.kind % 9 = 5) :
    Calls Try.prog 24 #[.pointer (some ⟨gp, 0, none⟩), .pointer (some ⟨gr, 0, none⟩), .agg #[v0, v1, v2, v3, v4]] w (DoesPost D DB x w0 w (.pointer (some ⟨gp, 0, none⟩)) (.pointer (some ⟨gr, 0, none⟩))) := by
  obtain ⟨rfl, rfl, rfl, ⟨A3, c3, rfl, hc3, b3⟩, ⟨A4, c4, rfl, b4⟩, hk, hfl, hs⟩ := hx
  obtain ⟨kind, file, sector, data, fates⟩ := x
  simp only at hk hfl hs b3 b4 hc3 hf hd hm ⊢
  have kb := Blk.new w 41 #[.int .u8 kind, .int .u8 file, .int .i64 sector, .slice A3 data.length c3, .slice A4 fates.length c4]
  have a0 := (Below.refl w.heap.size w).alloc (Nat.le_refl _) (.cells #[.int .u8 kind, .int .u8 file, .int .i64 sector, .slice A3 data.length c3, .slice A4 fates.length c4] 41)
  have hD0 := h.below a0
  have hn1 : ¬ F1 w.heap.size := fun q => by have := h.a.hi _ q; omega
  have hn2 : ¬ F2 w.heap.size := fun q => by have := h.b.hi _ q; omega
  have y3 := b3.below (a0.mono hw)
  have y4 := b4.below (a0.mono hw)
  have hw1 := Nat.le_trans hw a0.size
  have hb1 := a0.mono hw
  have hsx : sector < 9223372036854775808 := by have := bounds_i64 hs; omega
  have r1 : (kind : Int) % 9 = 5 := by omega
  have r2 : Int.tmod (kind : Int) 9 = 5 := by rw [Int.tmod_eq_emod_of_nonneg (by omega)]; exact r1
  have hP : ∀ D : DevP, D.doesP ⟨kind, file, sector, data, fates⟩ = D.sync file := fun D => by
    unfold DevP.doesP
    simp only [hm]
    rfl
  rw [show DoesPost D DB ⟨kind, file, sector, data, fates⟩ w0 w (.pointer (some ⟨gp, 0, none⟩)) (.pointer (some ⟨gr, 0, none⟩)) = fun e w' => ∃ ok : Bool, e = .returned (.bool ok) ∧ (D = DB → ok = true) ∧ (∃ F1 F2, DvR (D.sync file) (DB.sync file) w0 w' F1 F2 (.pointer (some ⟨gp, 0, none⟩)) (.pointer (some ⟨gr, 0, none⟩))) ∧ Below w0.heap.size w w' by funext e w'; unfold DoesPost; rw [hP, hP]]
  clear hP hm h b3 b4 hc3
  go_enter Try.func24, Try.ntmps24
  go_upto_region 1 with fail
  generalize World.alloc w _ = w1 at *
  have q0 := kb.cell 0
  have q1 := kb.cell 1
  have q2 := kb.cell 2
  have q4 := kb.cell 4
  have cA := sync_any hD0.a.dev hD0.a.hi hG (by omega) file hfl
  go_wp2_with fail
  refine cA.mono ?_
  rintro e w2 ⟨rfl, hp⟩
  obtain ⟨hD2, bp⟩ := hD0.postA hw1 hp
  have kb2 := kb.only hp.2 hn1
  have hb2 := hb1.trans bp
  have hw2 := hb2.size
  have hw2' := Nat.le_trans hw hw2
  have y5 := y4.below bp
  have p1 := kb2.cell 1
  have p2 := kb2.cell 2
  have p4 := kb2.cell 4
  clear cA hp kb q0 q1 q2 q4 hD0 bp hb1 y4
  generalize grow F1 w1 w2 = F1' at *
  have cB := rsync_any hD2.b.dev hD2.b.hi hGB (by omega) file hfl
  go_wp2_with fail
  refine cB.mono ?_
  rintro e w3 ⟨rfl, hp⟩
  obtain ⟨hD3, bp⟩ := hD2.postB hw2' hp
  have hb3 := hb2.trans bp
  clear cB hp kb2 p1 p2 p4 hD2 bp hb2
  have cA := haltedd_any hD3.a.dev
  have cB := rhalted_any hD3.b.dev
  have hq : D = DB → (D.sync file).halted = (DB.sync file).halted := fun z => by rw [z]
  generalize (D.sync file).halted = hl at cA hq
  generalize (DB.sync file).halted = hl2 at cB hq
  have HQ := Lib.hid hq
  clear hq
  go_wp2_with fail
  refine cA.mono ?_
  rintro e w8 ⟨rfl, rfl⟩
  clear cA
  go_wp2_with fail
  refine cB.mono ?_
  rintro e w8 ⟨rfl, rfl⟩
  clear cB
  go_wp2
  go_ret
  exact ⟨_, rfl, fun z => by rw [HQ.out z]; simp, ⟨_, _, hD3⟩, hb3⟩
set_option maxHeartbeats 4000000 in
theorem does_crash {D DB : DevP} {w0 w : World} {F1 F2 : Nat → Prop} {gp gr : Nat} (h : DvR D DB w0 w F1 F2 (.pointer (some ⟨gp, 0, none⟩)) (.pointer (some ⟨gr, 0, none⟩))) (hw : w0.heap.size ≤ w.heap.size) {N : Nat} (hG : D.good N) (hGB : DB.good N) (hN : N ≤ 90000) (x : OpP) (v0 v1 v2 v3 v4 : Value) (hx : OpV w w0.heap.size x v0 v1 v2 v3 v4) (hf : x.fates.length ≤ 100000) (hd : x.data.length ≤ 100000) (hm : x.kind % 9 = 6) :
    Calls Try.prog 24 #[.pointer (some ⟨gp, 0, none⟩), .pointer (some ⟨gr, 0, none⟩), .agg #[v0, v1, v2, v3, v4]] w (DoesPost D DB x w0 w (.pointer (some ⟨gp, 0, none⟩)) (.pointer (some ⟨gr, 0, none⟩))) := by
  obtain ⟨rfl, rfl, rfl, ⟨A3, c3, rfl, hc3, b3⟩, ⟨A4, c4, rfl, b4⟩, hk, hfl, hs⟩ := hx
  obtain ⟨kind, file, sector, data, fates⟩ := x
  simp only at hk hfl hs b3 b4 hc3 hf hd hm ⊢
  have kb := Blk.new w 41 #[.int .u8 kind, .int .u8 file, .int .i64 sector, .slice A3 data.length c3, .slice A4 fates.length c4]
  have a0 := (Below.refl w.heap.size w).alloc (Nat.le_refl _) (.cells #[.int .u8 kind, .int .u8 file, .int .i64 sector, .slice A3 data.length c3, .slice A4 fates.length c4] 41)
  have hD0 := h.below a0
  have hn1 : ¬ F1 w.heap.size := fun q => by have := h.a.hi _ q; omega
  have hn2 : ¬ F2 w.heap.size := fun q => by have := h.b.hi _ q; omega
  have y3 := b3.below (a0.mono hw)
  have y4 := b4.below (a0.mono hw)
  have hw1 := Nat.le_trans hw a0.size
  have hb1 := a0.mono hw
  have hsx : sector < 9223372036854775808 := by have := bounds_i64 hs; omega
  have r1 : (kind : Int) % 9 = 6 := by omega
  have r2 : Int.tmod (kind : Int) 9 = 6 := by rw [Int.tmod_eq_emod_of_nonneg (by omega)]; exact r1
  have hP : ∀ D : DevP, D.doesP ⟨kind, file, sector, data, fates⟩ = D.crash fates := fun D => by
    unfold DevP.doesP
    simp only [hm]
    rfl
  rw [show DoesPost D DB ⟨kind, file, sector, data, fates⟩ w0 w (.pointer (some ⟨gp, 0, none⟩)) (.pointer (some ⟨gr, 0, none⟩)) = fun e w' => ∃ ok : Bool, e = .returned (.bool ok) ∧ (D = DB → ok = true) ∧ (∃ F1 F2, DvR (D.crash fates) (DB.crash fates) w0 w' F1 F2 (.pointer (some ⟨gp, 0, none⟩)) (.pointer (some ⟨gr, 0, none⟩))) ∧ Below w0.heap.size w w' by funext e w'; unfold DoesPost; rw [hP, hP]]
  clear hP hm h b3 b4 hc3
  go_enter Try.func24, Try.ntmps24
  go_upto_region 1 with fail
  generalize World.alloc w _ = w1 at *
  have q0 := kb.cell 0
  have q1 := kb.cell 1
  have q2 := kb.cell 2
  have q4 := kb.cell 4
  have hA0 : ∀ b o, A4 = some ⟨b, o, none⟩ → 0 < fates.length → b < w0.heap.size := fun b o e h0 => by
    obtain ⟨b', o', e', hb', -⟩ := y4.at_ (k := 0) h0
    rw [e] at e'
    injection e' with e'
    injection e' with e1 e2
    subst e1
    exact hb'
  have cA := crash_any hD0.a.dev hD0.a.hi hG (by omega) A4 c4 fates ⟨y4.1.more hw1, y4.2⟩ (fun b o e h0 z => by have := hA0 b o e h0; have := hD0.a.lo b z; omega) hf
  go_wp2_with fail
  refine cA.mono ?_
  rintro e w2 ⟨rfl, hp⟩
  obtain ⟨hD2, bp⟩ := hD0.postA hw1 hp
  have kb2 := kb.only hp.2 hn1
  have hb2 := hb1.trans bp
  have hw2 := hb2.size
  have hw2' := Nat.le_trans hw hw2
  have y5 := y4.below bp
  have p1 := kb2.cell 1
  have p2 := kb2.cell 2
  have p4 := kb2.cell 4
  clear cA hp kb q0 q1 q2 q4 hD0 bp hb1 y4
  generalize grow F1 w1 w2 = F1' at *
  have cB := rcrash_any hD2.b.dev hD2.b.hi hGB (by omega) A4 c4 fates ⟨y5.1.more hw2', y5.2⟩ (fun b o e h0 z => by have := hA0 b o e h0; have := hD2.b.lo b z; omega) hf
  go_wp2_with fail
  refine cB.mono ?_
  rintro e w3 ⟨rfl, hp⟩
  obtain ⟨hD3, bp⟩ := hD2.postB hw2' hp
  have hb3 := hb2.trans bp
  clear cB hp kb2 p1 p2 p4 hD2 bp hb2
  have cA := haltedd_any hD3.a.dev
  have cB := rhalted_any hD3.b.dev
  have hq : D = DB → (D.crash fates).halted = (DB.crash fates).halted := fun z => by rw [z]
  generalize (D.crash fates).halted = hl at cA hq
  generalize (DB.crash fates).halted = hl2 at cB hq
  have HQ := Lib.hid hq
  clear hq
  go_wp2_with fail
  refine cA.mono ?_
  rintro e w8 ⟨rfl, rfl⟩
  clear cA
  go_wp2_with fail
  refine cB.mono ?_
  rintro e w8 ⟨rfl, rfl⟩
  clear cB
  go_wp2
  go_ret
  exact ⟨_, rfl, fun z => by rw [HQ.out z]; simp, ⟨_, _, hD3⟩, hb3⟩
set_option maxHeartbeats 4000000 in
theorem does_read {D DB : DevP} {w0 w : World} {F1 F2 : Nat → Prop} {gp gr : Nat} (h : DvR D DB w0 w F1 F2 (.pointer (some ⟨gp, 0, none⟩)) (.pointer (some ⟨gr, 0, none⟩))) (hw : w0.heap.size ≤ w.heap.size) {N : Nat} (hG : D.good N) (hGB : DB.good N) (hN : N ≤ 90000) (x : OpP) (v0 v1 v2 v3 v4 : Value) (hx : OpV w w0.heap.size x v0 v1 v2 v3 v4) (hf : x.fates.length ≤ 100000) (hd : x.data.length ≤ 100000) (hm : x.kind % 9 = 4) :
    Calls Try.prog 24 #[.pointer (some ⟨gp, 0, none⟩), .pointer (some ⟨gr, 0, none⟩), .agg #[v0, v1, v2, v3, v4]] w (DoesPost D DB x w0 w (.pointer (some ⟨gp, 0, none⟩)) (.pointer (some ⟨gr, 0, none⟩))) := by
  obtain ⟨rfl, rfl, rfl, ⟨A3, c3, rfl, hc3, b3⟩, ⟨A4, c4, rfl, b4⟩, hk, hfl, hs⟩ := hx
  obtain ⟨kind, file, sector, data, fates⟩ := x
  simp only at hk hfl hs b3 b4 hc3 hf hd hm ⊢
  have kb := Blk.new w 41 #[.int .u8 kind, .int .u8 file, .int .i64 sector, .slice A3 data.length c3, .slice A4 fates.length c4]
  have a0 := (Below.refl w.heap.size w).alloc (Nat.le_refl _) (.cells #[.int .u8 kind, .int .u8 file, .int .i64 sector, .slice A3 data.length c3, .slice A4 fates.length c4] 41)
  have hD0 := h.below a0
  have hn1 : ¬ F1 w.heap.size := fun q => by have := h.a.hi _ q; omega
  have hn2 : ¬ F2 w.heap.size := fun q => by have := h.b.hi _ q; omega
  have y3 := b3.below (a0.mono hw)
  have y4 := b4.below (a0.mono hw)
  have hw1 := Nat.le_trans hw a0.size
  have hb1 := a0.mono hw
  have hsx : sector < 9223372036854775808 := by have := bounds_i64 hs; omega
  have r1 : (kind : Int) % 9 = 4 := by omega
  have r2 : Int.tmod (kind : Int) 9 = 4 := by rw [Int.tmod_eq_emod_of_nonneg (by omega)]; exact r1
  have hP : ∀ D : DevP, D.doesP ⟨kind, file, sector, data, fates⟩ = D := fun D => by
    unfold DevP.doesP
    simp only [hm]
    rfl
  rw [show DoesPost D DB ⟨kind, file, sector, data, fates⟩ w0 w (.pointer (some ⟨gp, 0, none⟩)) (.pointer (some ⟨gr, 0, none⟩)) = fun e w' => ∃ ok : Bool, e = .returned (.bool ok) ∧ (D = DB → ok = true) ∧ (∃ F1 F2, DvR D DB w0 w' F1 F2 (.pointer (some ⟨gp, 0, none⟩)) (.pointer (some ⟨gr, 0, none⟩))) ∧ Below w0.heap.size w w' by funext e w'; unfold DoesPost; rw [hP, hP]]
  clear hP hm h b3 b4 hc3
  go_enter Try.func24, Try.ntmps24
  go_upto_region 1 with fail
  generalize World.alloc w _ = w1 at *
  have q0 := kb.cell 0
  have q1 := kb.cell 1
  have q2 := kb.cell 2
  have cA := read_any hD0.a.dev hG (by omega) file hfl sector
  go_wp2_with fail
  refine cA.mono ?_
  rintro e w2 ⟨A5, n5, rfl, o5, b5, s5⟩
  have hD2 := hD0.below b5
  have x5 := own_bytes o5 s5
  have hb2 := hb1.trans (b5.mono hw1)
  have kb2 := kb.below b5 kb.lt
  have p1 := kb2.cell 1
  have p2 := kb2.cell 2
  have cB := rread_any hD2.b.dev hGB (by omega) file hfl sector
  have hw2 := Nat.le_trans hw1 b5.size
  clear cA kb q0 q1 q2 hD0 o5 s5 b5 hb1
  go_wp2_with fail
  refine cB.mono ?_
  rintro e w3 ⟨A6, n6, rfl, o6, b6, s6⟩
  have hD3 := hD2.below b6
  have x6 := own_bytes o6 s6
  have x5' := (x5.below b6).more b6.size
  have hb3 := hb2.trans (b6.mono hw2)
  clear cB kb2 p1 p2 hD2 o6 s6 b6 hb2 x5
  have hrn := read_no D file sector
  have hrn2 := read_no DB file sector
  have hq : D = DB → (D.read file sector).1 = (DB.read file sector).1 ∧ (D.read file sector).2 = (DB.read file sector).2 := fun z => by rw [z]; exact ⟨rfl, rfl⟩
  generalize (D.read file sector).1 = rl at *
  generalize (D.read file sector).2 = rn at *
  generalize (DB.read file sector).1 = rl2 at *
  generalize (DB.read file sector).2 = rn2 at *
  have hrw : IntKind.i64.wrap (rn : Int) = (rn : Int) := by rw [IntKind.wrap_i64]; omega
  have cT := same_any A5 A6 n5 n6 rl rl2 w3.heap.size w3 x5' x6
  have FIN := Lib.hid (And.intro hD3 hb3)
  have HQ := Lib.hid hq
  clear hD3 hb3 x5' x6 hq
  by_cases hne : rn = rn2
  · have t1 : ((rn : Int) == (rn2 : Int)) = true := by rw [beq_iff_eq]; omega
    clear hne
    go_wp2_with fail
    refine cT.mono ?_
    rintro e w8 ⟨rfl, rfl⟩
    clear cT
    go_wp2
    go_ret
    exact ⟨_, rfl, fun z => by simp [(HQ.out z).1], ⟨_, _, FIN.out.1⟩, FIN.out.2⟩
  · have t1 : ((rn : Int) == (rn2 : Int)) = false := by rw [beq_eq_false_iff_ne]; omega
    have HNE := Lib.hid hne
    clear hne cT
    go_wp2
    go_ret
    exact ⟨_, rfl, fun z => absurd (HQ.out z).2 HNE.out, ⟨_, _, FIN.out.1⟩, FIN.out.2⟩
set_option maxHeartbeats 4000000 in
theorem does_waits {D DB : DevP} {w0 w : World} {F1 F2 : Nat → Prop} {gp gr : Nat} (h : DvR D DB w0 w F1 F2 (.pointer (some ⟨gp, 0, none⟩)) (.pointer (some ⟨gr, 0, none⟩))) (hw : w0.heap.size ≤ w.heap.size) {N : Nat} (hG : D.good N) (hGB : DB.good N) (hN : N ≤ 90000) (x : OpP) (v0 v1 v2 v3 v4 : Value) (hx : OpV w w0.heap.size x v0 v1 v2 v3 v4) (hf : x.fates.length ≤ 100000) (hd : x.data.length ≤ 100000) (hm : x.kind % 9 = 7) :
    Calls Try.prog 24 #[.pointer (some ⟨gp, 0, none⟩), .pointer (some ⟨gr, 0, none⟩), .agg #[v0, v1, v2, v3, v4]] w (DoesPost D DB x w0 w (.pointer (some ⟨gp, 0, none⟩)) (.pointer (some ⟨gr, 0, none⟩))) := by
  obtain ⟨rfl, rfl, rfl, ⟨A3, c3, rfl, hc3, b3⟩, ⟨A4, c4, rfl, b4⟩, hk, hfl, hs⟩ := hx
  obtain ⟨kind, file, sector, data, fates⟩ := x
  simp only at hk hfl hs b3 b4 hc3 hf hd hm ⊢
  have kb := Blk.new w 41 #[.int .u8 kind, .int .u8 file, .int .i64 sector, .slice A3 data.length c3, .slice A4 fates.length c4]
  have a0 := (Below.refl w.heap.size w).alloc (Nat.le_refl _) (.cells #[.int .u8 kind, .int .u8 file, .int .i64 sector, .slice A3 data.length c3, .slice A4 fates.length c4] 41)
  have hD0 := h.below a0
  have hn1 : ¬ F1 w.heap.size := fun q => by have := h.a.hi _ q; omega
  have hn2 : ¬ F2 w.heap.size := fun q => by have := h.b.hi _ q; omega
  have y3 := b3.below (a0.mono hw)
  have y4 := b4.below (a0.mono hw)
  have hw1 := Nat.le_trans hw a0.size
  have hb1 := a0.mono hw
  have hsx : sector < 9223372036854775808 := by have := bounds_i64 hs; omega
  have r1 : (kind : Int) % 9 = 7 := by omega
  have r2 : Int.tmod (kind : Int) 9 = 7 := by rw [Int.tmod_eq_emod_of_nonneg (by omega)]; exact r1
  have hP : ∀ D : DevP, D.doesP ⟨kind, file, sector, data, fates⟩ = D := fun D => by
    unfold DevP.doesP
    simp only [hm]
    rfl
  rw [show DoesPost D DB ⟨kind, file, sector, data, fates⟩ w0 w (.pointer (some ⟨gp, 0, none⟩)) (.pointer (some ⟨gr, 0, none⟩)) = fun e w' => ∃ ok : Bool, e = .returned (.bool ok) ∧ (D = DB → ok = true) ∧ (∃ F1 F2, DvR D DB w0 w' F1 F2 (.pointer (some ⟨gp, 0, none⟩)) (.pointer (some ⟨gr, 0, none⟩))) ∧ Below w0.heap.size w w' by funext e w'; unfold DoesPost; rw [hP, hP]]
  clear hP hm h b3 b4 hc3
  go_enter Try.func24, Try.ntmps24
  go_upto_region 1 with fail
  generalize World.alloc w _ = w1 at *
  have q0 := kb.cell 0
  have q1 := kb.cell 1
  have q2 := kb.cell 2
  have dn : ∀ k, Below w1.heap.size w1 (w1.drewN k) := fun k => below_drewN (Below.refl _ _) k
  have cA := fun k => waits_any (hD0.below (dn k)).a.dev hG file hfl sector
  have cB := fun k => rwaits_any (hD0.below (dn k)).b.dev hGB file hfl sector
  have cC := fun k => sizes_any (hD0.below (dn k)).a.dev file hfl
  have cE := fun k => rsize_any (hD0.below (dn k)).b.dev file hfl
  have fin : ∀ k, (∃ F1 F2, DvR D DB w0 (w1.drewN k) F1 F2 (.pointer (some ⟨gp, 0, none⟩)) (.pointer (some ⟨gr, 0, none⟩))) ∧ Below w0.heap.size w (w1.drewN k) := fun k => ⟨⟨_, _, hD0.below (dn k)⟩, hb1.trans ((dn k).mono hw1)⟩
  have FIN := Lib.hid fin
  have hq : D = DB → D.waits file sector = DB.waits file sector ∧ D.size file = DB.size file := fun z => by rw [z]; exact ⟨rfl, rfl⟩
  generalize D.waits file sector = wn at *
  generalize D.size file = sn at *
  generalize DB.waits file sector = wn2 at *
  generalize DB.size file = sn2 at *
  have HQ := Lib.hid hq
  clear fin dn hD0 kb hb1 hq
  by_cases hne : wn = wn2
  · have t1 : ((wn : Int) == (wn2 : Int)) = true := by rw [beq_iff_eq]; omega
    clear hne
    go_wp2_with fail
    go_quiet (first
      | (go_at_call 22; exact Calls.quiet_of_same ((cA _).mono fun _ _ hh => ⟨hh.1, hh.2.symm⟩))
      | (go_at_call 44; exact Calls.quiet_of_same ((cB _).mono fun _ _ hh => ⟨hh.1, hh.2.symm⟩))
      | (go_at_call 27; exact Calls.quiet_of_same ((cC _).mono fun _ _ hh => ⟨hh.1, hh.2.symm⟩))
      | (go_at_call 45; exact Calls.quiet_of_same ((cE _).mono fun _ _ hh => ⟨hh.1, hh.2.symm⟩))
      | fail)
    go_wp2
    go_ret
    exact ⟨_, rfl, fun z => by simp [(HQ.out z).2], FIN.out _⟩
  · have t1 : ((wn : Int) == (wn2 : Int)) = false := by rw [beq_eq_false_iff_ne]; omega
    have HNE := Lib.hid hne
    clear hne
    go_wp2_with fail
    go_quiet (first
      | (go_at_call 22; exact Calls.quiet_of_same ((cA _).mono fun _ _ hh => ⟨hh.1, hh.2.symm⟩))
      | (go_at_call 44; exact Calls.quiet_of_same ((cB _).mono fun _ _ hh => ⟨hh.1, hh.2.symm⟩))
      | fail)
    go_wp2
    go_ret
    exact ⟨_, rfl, fun z => absurd (HQ.out z).1 HNE.out, FIN.out _⟩
set_option maxHeartbeats 4000000 in
theorem does_write {D DB : DevP} {w0 w : World} {F1 F2 : Nat → Prop} {gp gr : Nat} (h : DvR D DB w0 w F1 F2 (.pointer (some ⟨gp, 0, none⟩)) (.pointer (some ⟨gr, 0, none⟩))) (hw : w0.heap.size ≤ w.heap.size) {N : Nat} (hG : D.good N) (hGB : DB.good N) (hN : N ≤ 90000) (x : OpP) (v0 v1 v2 v3 v4 : Value) (hx : OpV w w0.heap.size x v0 v1 v2 v3 v4) (hf : x.fates.length ≤ 100000) (hd : x.data.length ≤ 100000) (hm : x.kind % 9 < 4) :
    Calls Try.prog 24 #[.pointer (some ⟨gp, 0, none⟩), .pointer (some ⟨gr, 0, none⟩), .agg #[v0, v1, v2, v3, v4]] w (DoesPost D DB x w0 w (.pointer (some ⟨gp, 0, none⟩)) (.pointer (some ⟨gr, 0, none⟩))) := by
  obtain ⟨rfl, rfl, rfl, ⟨A3, c3, rfl, hc3, b3⟩, ⟨A4, c4, rfl, b4⟩, hk, hfl, hs⟩ := hx
  obtain ⟨kind, file, sector, data, fates⟩ := x
  simp only at hk hfl hs b3 b4 hc3 hf hd hm ⊢
  have kb := Blk.new w 41 #[.int .u8 kind, .int .u8 file, .int .i64 sector, .slice A3 data.length c3, .slice A4 fates.length c4]
  have a0 := (Below.refl w.heap.size w).alloc (Nat.le_refl _) (.cells #[.int .u8 kind, .int .u8 file, .int .i64 sector, .slice A3 data.length c3, .slice A4 fates.length c4] 41)
  have hD0 := h.below a0
  have hn1 : ¬ F1 w.heap.size := fun q => by have := h.a.hi _ q; omega
  have hn2 : ¬ F2 w.heap.size := fun q => by have := h.b.hi _ q; omega
  have y3 := b3.below (a0.mono hw)
  have y4 := b4.below (a0.mono hw)
  have hw1 := Nat.le_trans hw a0.size
  have hb1 := a0.mono hw
  have hsx : sector < 9223372036854775808 := by have := bounds_i64 hs; omega
  obtain ⟨m, hm2⟩ : ∃ m, kind % 9 = m := ⟨_, rfl⟩
  have hm4 : m < 4 := by omega
  have r1 : (kind : Int) % 9 = (m : Int) := by omega
  have r2 : Int.tmod (kind : Int) 9 = (m : Int) := by rw [Int.tmod_eq_emod_of_nonneg (by omega)]; exact r1
  obtain ⟨pl, hpl⟩ : ∃ pl, (if kind % 9 < 3 then fullL data else data) = pl := ⟨_, rfl⟩
  have hP : ∀ D : DevP, D.doesP ⟨kind, file, sector, data, fates⟩ = (D.write file sector pl).2 := fun D => by
    unfold DevP.doesP
    rw [if_neg (by simp only; omega), if_neg (by simp only; omega), if_neg (by simp only; omega), if_neg (by simp only; omega), if_neg (by simp only; omega)]
    rw [hpl]
  rw [show DoesPost D DB ⟨kind, file, sector, data, fates⟩ w0 w (.pointer (some ⟨gp, 0, none⟩)) (.pointer (some ⟨gr, 0, none⟩)) = fun e w' => ∃ ok : Bool, e = .returned (.bool ok) ∧ (D = DB → ok = true) ∧ (∃ F1 F2, DvR (D.write file sector pl).2 (DB.write file sector pl).2 w0 w' F1 F2 (.pointer (some ⟨gp, 0, none⟩)) (.pointer (some ⟨gr, 0, none⟩))) ∧ Below w0.heap.size w w' by funext e w'; unfold DoesPost; rw [hP, hP]]
  have hpl3 : m < 3 → fullL data = pl := fun z => by rw [← hpl, if_pos (by omega)]
  have hpl4 : ¬ m < 3 → data = pl := fun z => by rw [← hpl, if_neg (by omega)]
  have hpll : pl.length ≤ 100000 := by
    rw [← hpl]
    split
    · rw [fullL_length]; omega
    · exact hd
  have u4 : ((m : Int) == 4) = false := by rw [beq_eq_false_iff_ne]; omega
  have u5 : ((m : Int) == 5) = false := by rw [beq_eq_false_iff_ne]; omega
  have u6 : ((m : Int) == 6) = false := by rw [beq_eq_false_iff_ne]; omega
  have u7 : ((m : Int) == 7) = false := by rw [beq_eq_false_iff_ne]; omega
  have u8 : ((m : Int) == 8) = false := by rw [beq_eq_false_iff_ne]; omega
  have H3 := Lib.hid hpl3
  have H4 := Lib.hid hpl4
  clear hP hm h b3 b4 hc3 hpl hm2 hpl3 hpl4
  go_enter Try.func24, Try.ntmps24
  go_upto_region 1 with fail
  generalize World.alloc w _ = w1 at *
  have q0 := kb.cell 0
  have q3 := kb.cell 3
  have c1 := lent_any A3 c3 data w0.heap.size w1 y3 (by omega)
  go_wp2_with fail
  refine c1.mono ?_
  rintro e w2 ⟨A5, n5, rfl, o5, b5⟩
  have kb2 := kb.below b5 kb.lt
  have p0 := kb2.cell 0
  have p3 := kb2.cell 3
  clear c1 q0 q3
  go_upto_if 25 with (fail)
  go_cut [11] (fun s11 wx => ∃ A c, s11 = .slice A pl.length c ∧ BytesIn wx (fun b => ¬ F1 b ∧ ¬ F2 b) A pl ∧ Below w1.heap.size w1 wx)
  case first =>
    clear kb
    rcases Nat.lt_or_ge m 3 with z | z
    · have t3 : (m : Int) < 3 := by omega
      have c2 := full_any A3 c3 data w0.heap.size w2 (y3.below (b5.mono hw1)) (Nat.le_trans hw1 b5.size)
      rw [H3.out z] at c2
      clear z H4 H3
      go_wp2_with fail
      refine c2.mono ?_
      rintro e w3 ⟨A6, n6, rfl, o6, b6, s6⟩
      have hin : BytesIn w3 (fun b => ¬ F1 b ∧ ¬ F2 b) A6 pl := own_in o6 s6 fun b hb => ⟨fun z => by have := hD0.a.hi b z; have := b5.size; omega, fun z => by have := hD0.b.hi b z; have := b5.size; omega⟩
      have FIN := Lib.hid (And.intro hin (b5.trans (b6.mono b5.size)))
      clear hin o5 o6 b5 b6 hD0 kb2 p0 p3 c2
      go_wp2
      go_meet
      case rel => exact ⟨A6, n6, rfl, FIN.out.1, FIN.out.2⟩
    · have t3 : (3 : Int) ≤ (m : Int) := by omega
      have e4 := H4.out (by omega)
      subst e4
      have hin : BytesIn w2 (fun b => ¬ F1 b ∧ ¬ F2 b) A5 data := own_in o5 y3.2 fun b hb => ⟨fun z => by have := hD0.a.hi b z; omega, fun z => by have := hD0.b.hi b z; omega⟩
      have FIN := Lib.hid (And.intro hin b5)
      clear hin o5 b5 hD0 kb2 p3 H3 H4
      go_wp2
      go_meet
      case rel => exact ⟨A5, n5, rfl, FIN.out.1, FIN.out.2⟩
  case rest =>
    clear o5 p0 p3 kb2 b5
    obtain ⟨A5, n5, rfl, hin, b5⟩ := hcut
    have hD2 := hD0.below b5
    have kb2 := kb.below b5 kb.lt
    have hb2 := hb1.trans (b5.mono hw1)
    have hw2 := Nat.le_trans hw1 b5.size
    have hlt2 := kb2.lt
    clear kb hD0 b5 hb1 H3 H4 y3 y4 u4 u5 u6 u7 u8 r1 r2
    have c1 := lent_any A5 n5 pl wc.heap.size wc hin.bytes (by omega)
    go_wp2_with fail
    refine c1.mono ?_
    rintro e w3 ⟨A6, n6, rfl, o6, b6⟩
    have hD3 := hD2.below b6
    have kb3 := kb2.below b6 kb2.lt
    have hb3 := hb2.trans (b6.mono hw2)
    have hw3 := Nat.le_trans hw2 b6.size
    have hin3 : BytesIn w3 (fun b => ¬ F1 b ∧ ¬ F2 b) A5 pl := hin.only (Only.of_below b6 (fun _ => False)) fun _ _ q => q
    have hown : BytesIn w3 (fun b => ¬ F1 b) A6 pl := own_in o6 hin.2 fun b hb z => by have := hD2.a.hi b z; omega
    have h12 : ∀ b, (F1 b ∨ F2 b) → b < wc.heap.size := fun b z => z.elim (hD2.a.hi b) (hD2.b.hi b)
    clear c1 kb2 hD2 hb2 hin
    have q1 := kb3.cell 1
    have q2 := kb3.cell 2
    have cA := write_any hD3.a.dev hD3.a.hi hG (by omega) file hfl sector A6 n6 pl hown
    go_wp2_with fail
    refine cA.mono ?_
    rintro e w4 ⟨rfl, hp⟩
    obtain ⟨hD4, bp⟩ := hD3.postA hw3 hp
    have kb4 := kb3.only hp.2 hn1
    have hb4 := hb3.trans bp
    have hw4 := Nat.le_trans hw3 hp.2.size
    have hin4 := (hin3.only hp.2 fun b q z => q.1 z).mono fun b q => q.2
    have o6b := hp.2.own o6 (fun b e z => by have := (o6.lt b e).1; have := h12 b (.inl z); omega)
    have hs34 := hp.2.size
    have hg4 : ∀ b, grow F1 w3 w4 b → (F1 b ∨ w3.heap.size ≤ b) := fun b z => z.imp id fun y => y.1
    clear cA hp kb3 q1 q2 hD3 bp hb3 hin3 hown
    generalize grow F1 w3 w4 = F1' at *
    have p1 := kb4.cell 1
    have p2 := kb4.cell 2
    have cB := rwrite_any hD4.b.dev hD4.b.hi hGB (by omega) file hfl sector A5 n5 pl hin4
    go_wp2_with fail
    refine cB.mono ?_
    rintro e w5 ⟨rfl, hp⟩
    obtain ⟨hD5, bp⟩ := hD4.postB hw4 hp
    have hb5 := hb4.trans bp
    have o6c := hp.2.own o6b (fun b e z => by have := (o6b.lt b e).1; have := h12 b (.inr z); omega)
    have hg5 : ∀ b, grow F2 w4 w5 b → (F2 b ∨ w4.heap.size ≤ b) := fun b z => z.imp id fun y => y.1
    have hlt6 : ∀ b, (Value.slice A6 pl.length n6).ownBlock = some b → wc.heap.size ≤ b ∧ b < w3.heap.size := fun b e => o6.lt b e
    have no1 : ∀ b, F1' b → ¬ (Value.slice A6 pl.length n6).ownBlock = some b := fun b z e => by
      have := hlt6 b e
      rcases hg4 b z with y | y
      · have := h12 b (.inl y); omega
      · omega
    generalize grow F2 w4 w5 = F2' at *
    have no2 : ∀ b, F2' b → ¬ (Value.slice A6 pl.length n6).ownBlock = some b := fun b z e => by
      have := hlt6 b e
      rcases hg5 b z with y | y
      · have := h12 b (.inr y); omega
      · omega
    have hw5 := Nat.le_trans hw4 hp.2.size
    have hrn := write_no D file sector pl
    have hq : D = DB → (D.write file sector pl).1 = (DB.write file sector pl).1 := fun z => by rw [z]
    clear cB hp kb4 p1 p2 hD4 bp hb4 hin4 o6b o6 hg4 hg5
    generalize (D.write file sector pl).1 = rn at *
    generalize (DB.write file sector pl).1 = rn2 at *
    have HQ := Lib.hid hq
    clear hq
    have hrw : IntKind.i64.wrap (rn : Int) = (rn : Int) := by rw [IntKind.wrap_i64]; omega
    obtain ⟨nl, hnl⟩ : ∃ nl, pl.length = nl := ⟨_, rfl⟩
    rw [hnl] at o6c no1 no2 hlt6 ⊢
    have HNL := Lib.hid hnl
    have FIN := Lib.hid (And.intro hD5 (And.intro hb5 (And.intro no1 (And.intro no2 hlt6))))
    have hnl2 : nl ≤ 100000 := by omega
    clear hD5 hb5 no1 no2 hlt6 hnl hpll h12
    go_wp2_with fail
    go_loopw [15] (fun i wx => ∃ (j : Nat) (L : List Value), j ≤ nl ∧ i = .int .i64 j ∧ wx.ownsRow wc.heap.size 5 1 (.slice A6 nl n6) nl L ∧ (∀ i, j ≤ i → L[i]? = (pl.map byteV)[i]?) ∧ Only (fun b => (Value.slice A6 nl n6).ownBlock = some b) w5 wx) (fun i _ => nl - (intOf i).toNat)
    case atStart => exact ⟨0, _, Nat.zero_le _, rfl, o6c, fun _ _ => rfl, Only.refl _ _⟩
    case round =>
      clear o6c
      obtain ⟨j, L, hj, rfl, ho, hL, hO⟩ := hrel
      rcases Nat.lt_or_ge j nl with hlt | hge
      · have e1 : decide ((j : Int) < (nl : Int)) = true := by rw [decide_eq_true_iff]; omega
        have e2 : (0 : Int) ≤ (j : Int) := by omega
        have e3 : (j : Int) < (nl : Int) := by omega
        obtain ⟨g, rfl, hg1, hg2⟩ := own_pos ho (by omega)
        have hjp : j < pl.length := by rw [HNL.out]; exact hlt
        have hc := (ho.cellAt j (by omega)).trans ((hL j (Nat.le_refl _)).trans (List.getElem?_eq_getElem (by simpa using hjp)))
        rw [List.getElem_map] at hc
        obtain ⟨y, hy⟩ : ∃ y, pl[j] = y := ⟨_, rfl⟩
        rw [hy] at hc
        have hz := ho.frozenAt j
        have hst : ∀ v, (wr.setCell ⟨g, j, none⟩ v).ownsRow wc.heap.size 5 1 (.slice (some ⟨g, 0, none⟩) nl n6) nl (L.set j v) ∧ (∀ i, j + 1 ≤ i → (L.set j v)[i]? = (pl.map byteV)[i]?) ∧ Only (fun b => (Value.slice (some ⟨g, 0, none⟩) nl n6).ownBlock = some b) w5 (wr.setCell ⟨g, j, none⟩ v) := fun v => ⟨(ho.stored j v).1, fun i hi => by rw [List.getElem?_set_ne (by omega)]; exact hL i (by omega), hO.setCell (p := ⟨g, j, none⟩) (.inl rfl) v⟩
        have HST := Lib.hid hst
        clear hst hL hO ho hy
        unfold byteV at hc
        go_wp2_with fail
        go_roundw
        case rel => exact ⟨j + 1, _, by omega, by go_num, HST.out _⟩
        case measure => simp [intOf]; omega
      · obtain rfl : j = nl := by omega
        have e1 : decide ((j : Int) < (j : Int)) = false := by rw [decide_eq_false_iff_not]; omega
        have hfin : (∃ F1 F2, DvR (D.write file sector pl).2 (DB.write file sector pl).2 w0 wr F1 F2 (.pointer (some ⟨gp, 0, none⟩)) (.pointer (some ⟨gr, 0, none⟩))) ∧ Below w0.heap.size w wr :=
          ⟨⟨_, _, FIN.out.1.only hO FIN.out.2.2.1 FIN.out.2.2.2.1⟩, FIN.out.2.1.trans (hO.below hw5 fun b e => by have := FIN.out.2.2.2.2 b e; omega)⟩
        have HF := Lib.hid hfin
        clear hfin hL hO ho FIN
        go_wp2
        go_ret
        exact ⟨_, rfl, fun z => by rw [HQ.out z]; simp, HF.out⟩
theorem does_any {D DB : DevP} {w0 w : World} {F1 F2 : Nat → Prop} {gp gr : Nat} (h : DvR D DB w0 w F1 F2 (.pointer (some ⟨gp, 0, none⟩)) (.pointer (some ⟨gr, 0, none⟩))) (hw : w0.heap.size ≤ w.heap.size) {N : Nat} (hG : D.good N) (hGB : DB.good N) (hN : N ≤ 90000) (x : OpP) (v0 v1 v2 v3 v4 : Value) (hx : OpV w w0.heap.size x v0 v1 v2 v3 v4) (hf : x.fates.length ≤ 100000) (hd : x.data.length ≤ 100000) :
    Calls Try.prog 24 #[.pointer (some ⟨gp, 0, none⟩), .pointer (some ⟨gr, 0, none⟩), .agg #[v0, v1, v2, v3, v4]] w (DoesPost D DB x w0 w (.pointer (some ⟨gp, 0, none⟩)) (.pointer (some ⟨gr, 0, none⟩))) := by
  rcases (show x.kind % 9 < 4 ∨ x.kind % 9 = 4 ∨ x.kind % 9 = 5 ∨ x.kind % 9 = 6 ∨ x.kind % 9 = 7 ∨ x.kind % 9 = 8 from by omega) with z | z | z | z | z | z
  · exact does_write h hw hG hGB hN x v0 v1 v2 v3 v4 hx hf hd z
  · exact does_read h hw hG hGB hN x v0 v1 v2 v3 v4 hx hf hd z
  · exact does_sync h hw hG hGB hN x v0 v1 v2 v3 v4 hx hf hd z
  · exact does_crash h hw hG hGB hN x v0 v1 v2 v3 v4 hx hf hd z
  · exact does_waits h hw hG hGB hN x v0 v1 v2 v3 v4 hx hf hd z
  · exact does_halt h hw hG hGB hN x v0 v1 v2 v3 v4 hx hf hd z
end Go.Proofs.Ytnbbneldbagohaa
