/- rec: the reader's change. Conditions: as stated. -/
import Derived.Test.YthbaoljghofkoaaRecR
namespace Go.Proofs.Ythbaoljghofkoaa
open Go.ChangeShapes Go.WideShapes Go.ChangeAt Go.RowKit
open NumMath
set_option linter.unusedVariables false
set_option linter.unusedSimpArgs false
set_option maxRecDepth 20000

theorem Bytes.back {w w' : World} {B : Nat} {A : Option Addr} {l : List Nat} (h : Bytes w' B A l) (hb : Below B w w') : Bytes w B A l := ⟨fun j hj => by
  obtain ⟨b, o, e, hlt, hc⟩ := h.1 j hj
  exact ⟨b, o, e, hlt, (hb.cell (p := ⟨b, o + j, none⟩) hlt).symm.trans hc⟩, h.2⟩
section
variable {B p : Nat} {W0 w w' : World} {l l0 : List Nat}
theorem RdE.here (h : RdE B p W0 l w) : RdE B p w l w := by
  obtain ⟨A, c, z⟩ := h
  exact ⟨A, c, z.blk, z.by_.below z.low, z.cap, Only.refl _ _, z.bp, z.blk.lt⟩
theorem RdE.back (h0 : RdE B p W0 l0 w) (h : RdE B p w l w') : RdE B p W0 l w' := by
  obtain ⟨A, c, z⟩ := h
  obtain ⟨A0, c0, z0⟩ := h0
  exact ⟨A, c, z.blk, z.by_.back z0.low, z.cap, z0.only.trans z.only fun b q => .inl q, z0.bp, z0.plt⟩
theorem RdE.set (h : RdE B p W0 l w) {q : Addr} (hq : q.block ≠ p) (hq2 : W0.heap.size ≤ q.block) (u : Value) : RdE B p W0 l (w.setCell q u) := by
  obtain ⟨A, c, z⟩ := h
  exact ⟨A, c, z.blk.far (fun e => hq e.symm) u, z.by_, z.cap, z.only.setCell (.inr hq2) u, z.bp, z.plt⟩
theorem RdE.small (h : RdE B p W0 l w) : Small l := by obtain ⟨A, c, z⟩ := h; exact z.by_.2
theorem RdE.plt (h : RdE B p W0 l w) : p < W0.heap.size := by obtain ⟨A, c, z⟩ := h; exact z.plt
theorem RdE.low (h : RdE B p W0 l w) : Below B W0 w := by obtain ⟨A, c, z⟩ := h; exact z.low
theorem RdE.bp (h : RdE B p W0 l w) : B ≤ p := by obtain ⟨A, c, z⟩ := h; exact z.bp
theorem RdE.blk (h : RdE B p W0 l w) : ∃ v, Blk w p 79 #[v] := by obtain ⟨A, c, z⟩ := h; exact ⟨_, z.blk⟩
end
def numP (m : Nat) (l : List Nat) : Option (Nat × List Nat) := if m ≤ l.length then some (getL (l.take m), l.drop m) else none
theorem numP_some {m : Nat} {l : List Nat} (h : m ≤ l.length) : numP m l = some (getL (l.take m), l.drop m) := if_pos h
theorem numP_none {m : Nat} {l : List Nat} (h : l.length < m) : numP m l = none := if_neg (by omega)
def chgP (l : List Nat) : Option (ChgP × List Nat) :=
  (numP 4 l).bind fun a => (numP 2 a.2).bind fun b => (numP 1 b.2).bind fun f => if 3 < f.1 then none else
    (bytP f.2).bind fun x => (bytP x.2).bind fun y => some (⟨a.1, b.1, f.1 % 2 == 1, f.1 / 2 % 2 == 1, x.1, y.1⟩, y.2)
/-- a change in memory that is new since W0 -/
structure ChgNew (W0 w : World) (c : ChgP) (m : ChgM) : Prop where
  o1 : w.ownsRow W0.heap.size 5 1 (.slice m.A1 c.before.length m.c1) c.before.length (c.before.map byteV)
  o2 : w.ownsRow W0.heap.size 5 1 (.slice m.A2 c.after.length m.c2) c.after.length (c.after.map byteV)
  fits : c.Fits
theorem own_cap' {w : World} {base : Nat} {e : TypeId} {A : Option Addr} {n c : Nat} {xs : List Value} (h : w.ownsRow base e 1 (.slice A n c) n xs) : n ≤ c := by
  obtain ⟨A', c', e, h1, h2⟩ := own_form h
  injection e with _ _ e
  omega
theorem ChgNew.at_ {W0 w : World} {c : ChgP} {m : ChgM} (h : ChgNew W0 w c m) : ChgAt w w.heap.size c m :=
  ⟨own_bytes h.o1 h.fits.2.2.1, own_bytes h.o2 h.fits.2.2.2, own_cap' h.o1, own_cap' h.o2, h.fits⟩
def ChgPost (B p : Nat) (W0 : World) (l : List Nat) (e : Ending) (w' : World) : Prop :=
  (∃ c r, chgP l = some (c, r) ∧ ∃ m, e = .returned (.agg (chgV c m)) ∧ ChgNew W0 w' c m ∧ RdE B p W0 r w') ∨ (chgP l = none ∧ e = .panicked BadP ∧ Only (fun b => b = p) W0 w')
theorem store_chg_all {w : World} {g : Nat} {cs : Array Value} (h : Blk w g 27 cs) (hs : cs.size = 6) (c : ChgP) (m : ChgM) : (Instr.storeAt 27 (.pointer (some ⟨g, 0, none⟩)) (.agg (chgV c m))).run Try.prog w = .ok () (w.setRow g (chgV c m)) := by
  simp only [Instr.storeAt, Instr.sureAddr, Sem.run_bind, Sem.run_pure, Result.andThen_ok]
  exact run_storeVar_row w g 27 27 cs (chgV c m) h size_chg hs (by simp [chgV, Value.oneCell'])
theorem and1 {f : Nat} (h : f ≤ 3) : (bits .and .u64 (f : Int) 1 != 0) = (f % 2 == 1) := by
  rcases (show f = 0 ∨ f = 1 ∨ f = 2 ∨ f = 3 by omega) with rfl | rfl | rfl | rfl <;> rfl
theorem and2 {f : Nat} (h : f ≤ 3) : (bits .and .u64 (f : Int) 2 != 0) = (f / 2 % 2 == 1) := by
  rcases (show f = 0 ∨ f = 1 ∨ f = 2 ∨ f = 3 by omega) with rfl | rfl | rfl | rfl <;> rfl
theorem row_blk {w : World} {g : Nat} {t : TypeId} {cs : Array Value} (h : Blk w g t cs) (cs' : Array Value) : Blk (w.setRow g cs') g t cs' := setRow_heap w g cs cs' t _ h
theorem only_row (w : World) (g : Nat) (cs : Array Value) : Only (fun b => b = g) w (w.setRow g cs) := ⟨rfl, rfl, rfl, by simp [World.setRow], fun x hx hne => setRow_other w g x _ hne⟩
set_option maxHeartbeats 8000000 in
theorem rchange_any {B p : Nat} {W0 w : World} {l : List Nat} (h : RdE B p W0 l w) (hl : l.length ≤ 100000) :
    Calls Try.prog 48 #[.pointer (some ⟨p, 0, none⟩)] w (ChgPost B p W0 l) := by
  have hw0 := h.only.size
  have hpw : p < w.heap.size := Nat.lt_of_lt_of_le h.plt hw0
  have hb1 := below_alloc w (.cells #[.int .u32 0, .int .u16 0, .bool false, .bool false, .slice none 0 0, .slice none 0 0] 27)
  have h1 := h.below hb1
  have kR : Blk (w.alloc (.cells #[.int .u32 0, .int .u16 0, .bool false, .bool false, .slice none 0 0, .slice none 0 0] 27)) w.heap.size 27 #[.int .u32 0, .int .u16 0, .bool false, .bool false, .slice none 0 0, .slice none 0 0] := Blk.new w _ _
  have hsm := h.small
  have PAN : ∀ w', Only (fun b => b = p) W0 w' → chgP l = none → ChgPost B p W0 l (.panicked BadP) w' := fun w' a b => .inr ⟨b, rfl, a⟩
  go_enter Try.func48, Try.ntmps48
  go_upto_region 1 with fail
  generalize World.alloc w _ = w1 at *
  have hneR : w.heap.size ≠ p := by omega
  have c1 := num_any 4 (by omega) h1.here hl
  go_wp2_with fail
  refine c1.mono ?_
  rintro e w2 (⟨hm4, rfl, h2⟩ | ⟨hm, rfl, h2⟩)
  rotate_left
  · exact ⟨rfl, PAN _ (h1.only.trans h2.only fun b q => .inl q) (by unfold chgP; rw [numP_none hm]; rfl)⟩
  have kR2 := kR.only h2.only hneR
  have h2' := h1.back h2
  have c2 := num_any 2 (by omega) h2'.here (by rw [List.length_drop]; omega)
  clear c1 kR h2 hb1
  go_wp2_with fail
  refine c2.mono ?_
  rintro e w3 (⟨hm2, rfl, h3⟩ | ⟨hm, rfl, h3⟩)
  rotate_left
  · exact ⟨rfl, PAN _ (h2'.only.trans h3.only fun b q => .inl q) (by unfold chgP; rw [numP_some hm4]; show (numP 2 _).bind _ = none; rw [numP_none hm]; rfl)⟩
  have kR3 := kR2.only h3.only hneR
  have h3' := h2'.back h3
  have b4 : getL (l.take 4) < 4294967296 := by
    have := getL_lt (l.take 4) (fun x hx => hsm x (List.mem_of_mem_take hx))
    rw [List.length_take, Nat.min_eq_left hm4] at this
    exact this
  have b2 : getL ((l.drop 4).take 2) < 65536 := by
    have := getL_lt ((l.drop 4).take 2) (fun x hx => hsm x (List.mem_of_mem_drop (List.mem_of_mem_take hx)))
    rw [List.length_take, Nat.min_eq_left hm2] at this
    exact this
  have e4 := numP_some hm4
  have e2 := numP_some hm2
  have hl3 : ((l.drop 4).drop 2).length ≤ 100000 := by rw [List.length_drop, List.length_drop]; omega
  generalize hpg : getL (l.take 4) = pg at *
  generalize hsl : getL ((l.drop 4).take 2) = sl at *
  generalize hl3e : (l.drop 4).drop 2 = l3 at *
  have hP1 : chgP l = (numP 1 l3).bind fun f => if 3 < f.1 then none else (bytP f.2).bind fun x => (bytP x.2).bind fun y => some (⟨pg, sl, f.1 % 2 == 1, f.1 / 2 % 2 == 1, x.1, y.1⟩, y.2) := by
    unfold chgP
    rw [e4]
    show (numP 2 _).bind _ = _
    rw [e2]
    rfl
  have HP1 := Lib.hid hP1
  clear hpg hsl hl3e e4 e2 hP1 c2 h3 h2' hm4 hm2
  have vp : (pg : Int) % 4294967296 = (pg : Int) := by omega
  have vs : IntKind.u16.wrap (sl : Int) = (sl : Int) := by rw [IntKind.wrap_u16]; omega
  have hb4 := below_alloc w3 (.cells #[.int .u32 (pg : Nat), .int .u16 (sl : Nat), .bool false, .bool false, .slice none 0 0, .slice none 0 0] 27)
  have kC := Blk.new w3 27 #[.int .u32 (pg : Nat), .int .u16 (sl : Nat), .bool false, .bool false, .slice none 0 0, .slice none 0 0]
  have kR4 := kR3.below hb4 kR3.lt
  have h4 := h3'.below hb4
  have hpw3 : p < w3.heap.size := Nat.lt_of_lt_of_le h3'.plt h3'.only.size
  have hRC : w.heap.size < w3.heap.size := kR3.lt
  have hW03 : W0.heap.size ≤ w3.heap.size := h3'.only.size
  clear kR2 kR3 h3' hb4
  go_upto_region 2 with fail
  generalize World.alloc w3 _ = w4 at *
  generalize hgC : w3.heap.size = gC at *
  clear hgC
  have hneC : gC ≠ p := by omega
  have c3 := num_any 1 (by omega) h4.here hl3
  go_wp2_with fail
  refine c3.mono ?_
  rintro e w5 (⟨hm1, rfl, h5⟩ | ⟨hm, rfl, h5⟩)
  rotate_left
  · exact ⟨rfl, PAN _ (h4.only.trans h5.only fun b q => .inl q) (by rw [HP1.out, numP_none hm]; rfl)⟩
  have kR5 := kR4.only h5.only hneR
  have kC5 := kC.only h5.only hneC
  have h5' := h4.back h5
  have b1 := getL1_lt h4.small
  have e1 := numP_some hm1
  have hl4 : (l3.drop 1).length ≤ 100000 := by rw [List.length_drop]; omega
  generalize getL (l3.take 1) = f at *
  generalize l3.drop 1 = l4 at *
  have hP2 : chgP l = if 3 < f then none else (bytP l4).bind fun x => (bytP x.2).bind fun y => some (⟨pg, sl, f % 2 == 1, f / 2 % 2 == 1, x.1, y.1⟩, y.2) := by rw [HP1.out, e1]; rfl
  clear e1 HP1 c3 kR4 kC h4 h5 hm1
  rcases Nat.lt_or_ge 3 f with z | z
  · have t1 : decide ((3 : Int) < (f : Int)) = true := by rw [decide_eq_true_iff]; omega
    rw [if_pos z] at hP2
    have FIN := Lib.hid (PAN _ h5'.only hP2)
    clear z hP2 PAN h5'
    go_wp2
    exact ⟨rfl, FIN.out⟩
  have t1 : decide ((3 : Int) < (f : Int)) = false := by rw [decide_eq_false_iff_not]; omega
  rw [if_neg (by omega)] at hP2
  have HP2 := Lib.hid hP2
  have a1 := and1 z
  have a2 := and2 z
  generalize (f % 2 == 1) = had at *
  generalize (f / 2 % 2 == 1) = has at *
  have ff2 := kC5.frozen 2
  have fc2 := kC5.cell 2
  have kC6 := kC5.set_ 2 (.bool had)
  have ff3 := kC6.frozen 3
  have fc3 := kC6.cell 3
  have kC7 : Blk ((w5.setCell ⟨gC, 2, none⟩ (.bool had)).setCell ⟨gC, 3, none⟩ (.bool has)) gC 27 (chgV ⟨pg, sl, had, has, [], []⟩ ⟨none, 0, none, 0⟩) := kC6.set_ 3 (.bool has)
  have kR7 := (kR5.far (p := ⟨gC, 2, none⟩) (by show w.heap.size ≠ gC; omega) (.bool had)).far (p := ⟨gC, 3, none⟩) (by show w.heap.size ≠ gC; omega) (.bool has)
  have h7 := (h5'.set (q := ⟨gC, 2, none⟩) hneC (by show W0.heap.size ≤ gC; omega) (.bool had)).set (q := ⟨gC, 3, none⟩) hneC (by show W0.heap.size ≤ gC; omega) (.bool has)
  clear kC5 kC6 kR5 h5' hP2 z
  go_upto_region 6 with fail
  generalize World.setCell (World.setCell w5 _ _) _ _ = w7 at *
  have hW07 : W0.heap.size ≤ w7.heap.size := h7.only.size
  have hgC7 := kC7.lt
  have cb := rbytes_any h7.here hl4
  clear ff2 fc2 ff3 fc3 a1 a2 t1
  go_wp2_with fail
  refine cb.mono ?_
  rintro e w8 (⟨bf, r5, hb5, A5, c5, rfl, o5, s5, h8⟩ | ⟨hn, rfl, hO⟩)
  rotate_left
  · exact ⟨rfl, PAN _ (h7.only.trans hO fun b q => .inl q) (by rw [HP2.out, hn]; rfl)⟩
  have hr5 : r5.length ≤ 100000 := by
    unfold bytP at hb5
    split at hb5
    · injection hb5 with hb5
      injection hb5 with _ hb5
      rw [← hb5, List.length_drop, List.length_drop]
      omega
    · cases hb5
  have hP3 : chgP l = (bytP r5).bind fun y => some (⟨pg, sl, had, has, bf, y.1⟩, y.2) := by rw [HP2.out, hb5]; rfl
  have kC8 := kC7.only h8.only hneC
  have kR8 := kR7.only h8.only hneR
  have h8' := h7.back h8
  have ff4 := kC8.frozen 4
  have fc4 := kC8.cell 4
  have ob5 := own_block (by decide) o5 kC8
  have kC9 : Blk (w8.setCell ⟨gC, 4, none⟩ (.slice A5 bf.length c5)) gC 27 (chgV ⟨pg, sl, had, has, bf, []⟩ ⟨A5, c5, none, 0⟩) := kC8.set_ 4 (.slice A5 bf.length c5)
  have kR9 := kR8.far (p := ⟨gC, 4, none⟩) (by show w.heap.size ≠ gC; omega) (.slice A5 bf.length c5)
  have h9 := h8'.set (q := ⟨gC, 4, none⟩) hneC (by show W0.heap.size ≤ gC; omega) (.slice A5 bf.length c5)
  have o9 := o5.kept (row := some gC) (((Only.refl (fun b => b = gC) w8).setCell (p := ⟨gC, 4, none⟩) (.inl rfl) (.slice A5 bf.length c5)).grown (fun k hk => by rw [hk])) (ob5.imp id id)
  have HP3 := Lib.hid hP3
  clear cb HP2 hb5 h8 kC7 kR7 h7 kC8 kR8 h8' o5 ob5 hP3
  go_upto_region 7 with fail
  generalize World.setCell w8 _ _ = w9 at *
  have cb2 := rbytes_any h9.here hr5
  clear ff4 fc4
  go_wp2_with fail
  refine cb2.mono ?_
  rintro e w10 (⟨af, r6, hb6, A6, c6, rfl, o6, s6, h10⟩ | ⟨hn, rfl, hO⟩)
  rotate_left
  · exact ⟨rfl, PAN _ (h9.only.trans hO fun b q => .inl q) (by rw [HP3.out, hn]; rfl)⟩
  have hP4 : chgP l = some (⟨pg, sl, had, has, bf, af⟩, r6) := by rw [HP3.out, hb6]; rfl
  have kC10 := kC9.only h10.only hneC
  have kR10 := kR9.only h10.only hneR
  obtain ⟨vR, kRd⟩ := h9.blk
  have o10 := h10.only.own o9 fun k hk e => by
    rcases own_block (by decide) o9 kRd with z | z
    · rw [z] at hk; cases hk
    · rw [e] at hk; exact z hk
  have h10' := h9.back h10
  have ff5 := kC10.frozen 5
  have fc5 := kC10.cell 5
  have kC11 : Blk (w10.setCell ⟨gC, 5, none⟩ (.slice A6 af.length c6)) gC 27 (chgV ⟨pg, sl, had, has, bf, af⟩ ⟨A5, c5, A6, c6⟩) := kC10.set_ 5 (.slice A6 af.length c6)
  have kR11 := kR10.far (p := ⟨gC, 5, none⟩) (by show w.heap.size ≠ gC; omega) (.slice A6 af.length c6)
  have h11 := h10'.set (q := ⟨gC, 5, none⟩) hneC (by show W0.heap.size ≤ gC; omega) (.slice A6 af.length c6)
  have hG : w10.grownBy (w10.setCell ⟨gC, 5, none⟩ (.slice A6 af.length c6)) (some gC) := ((Only.refl (fun b => b = gC) w10).setCell (p := ⟨gC, 5, none⟩) (.inl rfl) (.slice A6 af.length c6)).grown (fun k hk => by rw [hk])
  have o11 := o10.kept (row := some gC) hG ((own_block (by decide) o10 kC10).imp id id)
  have o12 := o6.kept (row := some gC) hG ((own_block (by decide) o6 kC10).imp id id)
  have hW09 : W0.heap.size ≤ w9.heap.size := h9.only.size
  clear cb2 HP3 hb6 h10 kC9 kR9 h9 kC10 kR10 h10' o6 o9 o10 hG kRd
  go_upto_region 8 with fail
  generalize World.setCell w10 _ _ = w11 at *
  have ld := load_chg0 kC11
  have st := store_chg_all kR11 rfl ⟨pg, sl, had, has, bf, af⟩ ⟨A5, c5, A6, c6⟩
  have hO12 := only_row w11 w.heap.size (chgV ⟨pg, sl, had, has, bf, af⟩ ⟨A5, c5, A6, c6⟩)
  have kR12 := row_blk kR11 (chgV ⟨pg, sl, had, has, bf, af⟩ ⟨A5, c5, A6, c6⟩)
  have q1 := hO12.own o11 fun k hk e => by
    rcases own_block (by decide) o11 kR11 with z | z
    · rw [z] at hk; cases hk
    · rw [e] at hk; exact z hk
  have q2 := hO12.own o12 fun k hk e => by
    rcases own_block (by decide) o12 kR11 with z | z
    · rw [z] at hk; cases hk
    · rw [e] at hk; exact z hk
  have h12 : RdE B p W0 r6 (w11.setRow w.heap.size (chgV ⟨pg, sl, had, has, bf, af⟩ ⟨A5, c5, A6, c6⟩)) := by
    obtain ⟨A, c, z⟩ := h11
    exact ⟨A, c, z.blk.only hO12 (fun e => hneR e.symm), z.by_, z.cap, z.only.trans hO12 fun b q => .inr (by rw [q]; exact hw0), z.bp, z.plt⟩
  have FIN : Hid (ChgPost B p W0 l (.returned (.agg (chgV ⟨pg, sl, had, has, bf, af⟩ ⟨A5, c5, A6, c6⟩))) (w11.setRow w.heap.size (chgV ⟨pg, sl, had, has, bf, af⟩ ⟨A5, c5, A6, c6⟩))) :=
    Lib.hid (.inl ⟨_, r6, hP4, ⟨A5, c5, A6, c6⟩, rfl, ⟨own_base hW07 q1, own_base hW09 q2, ⟨b4, b2, s5, s6⟩⟩, h12⟩)
  clear hP4 kC11 kR11 h11 o11 o12 hO12 q1 q2 h12 ff5 fc5 PAN
  go_wp2_with (first | (refine wpList_load_run rfl 27 (.tmp 3) _ _ rfl rfl ld ?_; clear ld) | (refine wpList_store_run rfl 27 (.tmp 2) (.tmp 32) _ _ rfl rfl rfl st ?_; clear st))
  refine bodyPost_ret (results_cell_row rfl _ _ w.heap.size 27 _ (0, 0) _ rfl kR12 Try.underlying27 rfl size_chg) rfl ?_
  exact FIN.out
end Go.Proofs.Ythbaoljghofkoaa
