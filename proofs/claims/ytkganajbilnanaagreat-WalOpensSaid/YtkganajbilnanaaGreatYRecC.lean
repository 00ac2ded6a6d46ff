/- rec: the reader: take, number, bytes. Conditions: as stated. -/
import Derived.Test.YtkganajbilnanaaGreatYRecB
set_option linter.unusedVariables false
set_option linter.unusedSimpArgs false
namespace Go.Proofs.YtkganajbilnanaaGreat
open Go.ChangeShapes Go.WideShapes Go.ChangeAt Go.RowKit
open NumMath
set_option maxRecDepth 20000
def BadP : List PanicEntry := [{ v := .iface 187 (.agg #[]), recovered := false }]
structure Rd (B p : Nat) (W0 : World) (l : List Nat) (w : World) (A : Option Addr) (c : Nat) : Prop where
  blk : Blk w p 170 #[.slice A l.length c]
  by_ : Bytes W0 B A l
  cap : l.length ≤ c
  only : Only (fun b => b = p) W0 w
  bp : B ≤ p
  plt : p < W0.heap.size
def RdE (B p : Nat) (W0 : World) (l : List Nat) (w : World) : Prop := ∃ A c, Rd B p W0 l w A c
theorem RdE.only {B p : Nat} {W0 w : World} {l : List Nat} (h : RdE B p W0 l w) : Only (fun b => b = p) W0 w := by obtain ⟨A, c, z⟩ := h; exact z.only
theorem RdE.below {B p : Nat} {W0 w w' : World} {l : List Nat} (h : RdE B p W0 l w) (hb : Below w.heap.size w w') : RdE B p W0 l w' := by
  obtain ⟨A, c, z⟩ := h
  exact ⟨A, c, z.blk.below hb z.blk.lt, z.by_, z.cap, z.only.trans (Only.of_below hb (fun b => b = p)) fun b q => .inl q, z.bp, z.plt⟩
theorem Rd.low {B p : Nat} {W0 w : World} {l : List Nat} {A : Option Addr} {c : Nat} (h : Rd B p W0 l w A c) : Below B W0 w := h.only.below (Nat.le_trans h.bp (Nat.le_of_lt h.plt)) fun b q => by rw [q]; exact h.bp
theorem bytes_add {w : World} {B : Nat} {A : Option Addr} {l : List Nat} (h : Bytes w B A l) (k : Nat) : Bytes w B (A.map (·.add k)) (l.drop k) := by
  have hd := h.drop k
  refine ⟨fun j hj => ?_, hd.2⟩
  obtain ⟨b, o, e, h1, h2⟩ := hd.1 j hj
  cases A with
  | none => cases e
  | some a =>
    obtain ⟨b', o', e', _⟩ := h.1 (k + j) (by simp at hj ⊢; omega)
    injection e' with e'
    subst e'
    simp only [shift, Option.map_some, Option.some.injEq, Addr.mk.injEq, and_true] at e
    obtain ⟨rfl, rfl⟩ := e
    refine ⟨b', o' + k, ?_, h1, h2⟩
    simp only [Option.map_some, Option.some.injEq]
    unfold Addr.add
    split
    · subst_vars; rfl
    · rfl
theorem Rd.set {B p : Nat} {W0 w : World} {l : List Nat} {A A' : Option Addr} {c c' m : Nat} (h : Rd B p W0 l w A c) (hb : Bytes W0 B A' (l.drop m)) (hc : l.length - m ≤ c') : RdE B p W0 (l.drop m) (w.setCell ⟨p, 0, none⟩ (.slice A' (l.length - m) c')) := by
  refine ⟨A', c', ?_, hb, by rw [List.length_drop]; exact hc, h.only.setCell (p := ⟨p, 0, none⟩) (.inl rfl) _, h.bp, h.plt⟩
  rw [List.length_drop]
  exact h.blk.set_ 0 _
def TakePost (n B p : Nat) (W0 : World) (l : List Nat) (e : Ending) (w' : World) : Prop :=
  (n ≤ l.length ∧ ∃ A' c', e = .returned (.slice A' n c') ∧ Bytes W0 B A' (l.take n) ∧ n ≤ c' ∧ RdE B p W0 (l.drop n) w') ∨ (l.length < n ∧ e = .panicked BadP ∧ RdE B p W0 l w')
set_option maxHeartbeats 4000000 in
theorem take_any (n : Nat) {B p : Nat} {W0 w : World} {l : List Nat} (h : RdE B p W0 l w) (hl : l.length ≤ 100000) :
    Calls Tryz.prog 115 #[.pointer (some ⟨p, 0, none⟩), .int .i64 n] w (TakePost n B p W0 l) := by
  obtain ⟨A, c, h⟩ := h
  have hc := h.blk.cell 0
  have hf := h.blk.frozen 0
  rcases Nat.lt_or_ge l.length n with z | z
  · have t1 : decide ((l.length : Int) < (n : Int)) = true := by rw [decide_eq_true_iff]; omega
    have FIN : Hid (TakePost n B p W0 l (.panicked BadP) w) := Lib.hid (.inr ⟨z, rfl, A, c, h⟩)
    clear h t1
    go_enter Tryz.func115, Tryz.ntmps115
    go_wp2
    exact ⟨rfl, FIN.out⟩
  · have t1 : decide ((l.length : Int) < (n : Int)) = false := by rw [decide_eq_false_iff_not]; omega
    have hcap := h.cap
    have s1 : (n : Int) ≤ (l.length : Int) := by omega
    have s2 : (n : Int) ≤ (c : Int) := by omega
    have s3 : (0 : Int) ≤ (n : Int) := by omega
    have s4 : (l.length : Int) ≤ (c : Int) := by omega
    have htk := h.by_.take n
    have FIN : ∀ A', Bytes W0 B A' (l.drop n) → TakePost n B p W0 l (.returned (.slice A n c)) (w.setCell ⟨p, 0, none⟩ (.slice A' (l.length - n) (c - n))) := fun A' hA' => .inl ⟨z, A, c, rfl, htk, by omega, h.set hA' (by omega)⟩
    by_cases hcn : c = n
    · subst hcn
      have hd : l.drop c = [] := List.drop_eq_nil_of_le (by omega)
      have FIN1 := FIN A (by rw [hd]; exact Bytes.nil _ _ _)
      rw [Nat.sub_self, Nat.sub_eq_zero_of_le hcap] at FIN1
      have FIN2 := Lib.hid FIN1
      clear FIN1
      have z' : ¬ l.length < c := by omega
      clear FIN htk h hd z t1
      go_enter Tryz.func115, Tryz.ntmps115
      go_wp2
      go_ret
      exact FIN2.out
    · have e1 : (c = n) = False := eq_false hcn
      have FIN2 := Lib.hid (FIN _ (bytes_add h.by_ n))
      have z' : ¬ l.length < n := by omega
      clear FIN htk h z hcn t1
      go_enter Tryz.func115, Tryz.ntmps115
      go_wp2
      go_ret
      exact FIN2.out
def NumPost (m B p : Nat) (W0 : World) (l : List Nat) (e : Ending) (w' : World) : Prop :=
  (m ≤ l.length ∧ e = .returned (.int .u64 (getL (l.take m) : Nat)) ∧ RdE B p W0 (l.drop m) w') ∨ (l.length < m ∧ e = .panicked BadP ∧ RdE B p W0 l w')
theorem num_any (m : Nat) (h8 : m ≤ 8) {B p : Nat} {W0 w : World} {l : List Nat} (h : RdE B p W0 l w) (hl : l.length ≤ 100000) :
    Calls Tryz.prog 116 #[.pointer (some ⟨p, 0, none⟩), .int .i64 m] w (NumPost m B p W0 l) := by
  have ct := take_any m h hl
  clear h
  go_enter Tryz.func116, Tryz.ntmps116
  go_wp2_with fail
  refine ct.mono ?_
  rintro e w1 (⟨hm, A, c, rfl, hb, hc, hr⟩ | ⟨hm, rfl, hr⟩)
  · obtain ⟨A1, c1, z⟩ := hr
    have hlm : (l.take m).length = m := by rw [List.length_take]; omega
    have hget := get_any A c (l.take m) B w1 (hb.below z.low) (by rw [hlm]; omega) (by rw [hlm]; exact hc)
    rw [hlm, List.take_take, Nat.min_eq_right h8] at hget
    have FIN : Hid (NumPost m B p W0 l (.returned (.int .u64 (getL (l.take m) : Nat))) w1) := Lib.hid (.inl ⟨hm, rfl, A1, c1, z⟩)
    clear ct z hb
    go_wp2_with fail
    refine hget.mono ?_
    rintro e w2 ⟨rfl, rfl⟩
    go_wp2
    go_ret
    exact FIN.out
  · exact ⟨rfl, .inr ⟨hm, rfl, hr⟩⟩
def bytP (l : List Nat) : Option (List Nat × List Nat) := if 1 ≤ l.length ∧ getL (l.take 1) ≤ (l.drop 1).length then some ((l.drop 1).take (getL (l.take 1)), (l.drop 1).drop (getL (l.take 1))) else none
def BytPost (B p : Nat) (W0 : World) (l : List Nat) (e : Ending) (w' : World) : Prop :=
  (∃ d r, bytP l = some (d, r) ∧ ∃ A c, e = .returned (.slice A d.length c) ∧ w'.ownsRow W0.heap.size 5 1 (.slice A d.length c) d.length (d.map byteV) ∧ Small d ∧ RdE B p W0 r w') ∨ (bytP l = none ∧ e = .panicked BadP ∧ Only (fun b => b = p) W0 w')
theorem getL1_lt {l : List Nat} (hs : Small l) : getL (l.take 1) < 256 := by
  have := getL_lt (l.take 1) (fun x hx => hs x (List.mem_of_mem_take hx))
  have h1 : (l.take 1).length ≤ 1 := by rw [List.length_take]; omega
  exact Nat.lt_of_lt_of_le this (Nat.pow_le_pow_right (n := 256) (by omega) h1)
set_option maxHeartbeats 2000000 in
theorem rbytes_any {B p : Nat} {W0 w : World} {l : List Nat} (h : RdE B p W0 l w) (hl : l.length ≤ 100000) :
    Calls Tryz.prog 135 #[.pointer (some ⟨p, 0, none⟩)] w (BytPost B p W0 l) := by
  have ct := num_any 1 (by omega) h hl
  have hsm : Small l := by obtain ⟨A, c, z⟩ := h; exact z.by_.2
  have hv := getL1_lt hsm
  clear h
  obtain ⟨k, hk⟩ : ∃ k, getL (l.take 1) = k := ⟨_, rfl⟩
  have HK := Lib.hid hk
  have hvk : k < 256 := by omega
  have vk : IntKind.i64.wrap (k : Int) = (k : Int) := by rw [IntKind.wrap_i64]; omega
  go_enter Tryz.func135, Tryz.ntmps135
  go_wp2_with fail
  refine ct.mono ?_
  rintro e w1 (⟨hm, rfl, hr⟩ | ⟨hm, rfl, hr⟩)
  · rw [hk]
    have hd1 : (l.drop 1).length ≤ 100000 := by rw [List.length_drop]; omega
    have ct2 := take_any k hr hd1
    clear ct hk hr
    go_wp2_with fail
    refine ct2.mono ?_
    rintro e w2 (⟨hm2, A, c, rfl, hb, hc, hr⟩ | ⟨hm2, rfl, hr⟩)
    · obtain ⟨A1, c1, z⟩ := hr
      have hlm : ((l.drop 1).take k).length = k := by rw [List.length_take]; omega
      have hcl := clone_any A c ((l.drop 1).take k) B w2 (hb.below z.low) (Nat.le_trans z.bp (Nat.le_of_lt (Nat.lt_of_lt_of_le z.plt z.only.size))) (by rw [hlm]; omega)
      have hP : bytP l = some ((l.drop 1).take k, (l.drop 1).drop k) := by
        unfold bytP
        rw [HK.out, if_pos ⟨hm, hm2⟩]
      have hR : RdE B p W0 ((l.drop 1).drop k) w2 := ⟨A1, c1, z⟩
      have hgrow : W0.heap.size ≤ w2.heap.size := z.only.size
      have HX := Lib.hid (And.intro hP (And.intro hR hlm))
      rw [hlm] at hcl
      clear z hb hP hR ct2
      go_wp2_with fail
      refine hcl.mono ?_
      rintro e w3 ⟨A3, c3, rfl, o3, b3, s3⟩
      have fin : BytPost B p W0 l (.returned (.slice A3 ((l.drop 1).take k).length c3)) w3 := .inl ⟨_, _, HX.out.1, A3, c3, rfl, own_base hgrow o3, s3, HX.out.2.1.below b3⟩
      rw [HX.out.2.2] at fin ⊢
      have FIN := Lib.hid fin
      clear fin
      clear hcl o3 b3
      go_wp2
      go_ret
      exact FIN.out
    · have hP : bytP l = none := by
        unfold bytP
        rw [HK.out, if_neg (by omega)]
      exact ⟨rfl, .inr ⟨hP, rfl, hr.only⟩⟩
  · have hP : bytP l = none := by
      unfold bytP
      rw [if_neg (by omega)]
    exact ⟨rfl, .inr ⟨hP, rfl, hr.only⟩⟩
theorem Bytes.back {w w' : World} {B : Nat} {A : Option Addr} {l : List Nat} (h : Bytes w' B A l) (hb : Below B w w') : Bytes w B A l := ⟨fun j hj => by
  obtain ⟨b, o, e, hlt, hc⟩ := h.1 j hj
  exact ⟨b, o, e, hlt, (hb.cell (p := ⟨b, o + j, none⟩) hlt).symm.trans hc⟩, h.2⟩
section
variable {B p : Nat} {W0 w w' : World} {l l0 : List Nat}
theorem RdE.here (h : RdE B p W0 l w) : RdE B p w l w := by
  obtain ⟨A, c, z⟩ := h
  exact ⟨A, c, z.blk, z.by_.below z.low, z.cap, Only.refl _ _, z.bp, z.blk.lt⟩
theorem RdE.back (h0 : RdE B p W0 l0 w) (h : RdE B p w l w') : RdE B p W0 l w' := by
  obtain ⟨A, c, z⟩ := h
  obtain ⟨A0, c0, z0⟩ := h0
  exact ⟨A, c, z.blk, z.by_.back z0.low, z.cap, z0.only.trans z.only fun b q => .inl q, z0.bp, z0.plt⟩
theorem RdE.set (h : RdE B p W0 l w) {q : Addr} (hq : q.block ≠ p) (hq2 : W0.heap.size ≤ q.block) (u : Value) : RdE B p W0 l (w.setCell q u) := by
  obtain ⟨A, c, z⟩ := h
  exact ⟨A, c, z.blk.far (fun e => hq e.symm) u, z.by_, z.cap, z.only.setCell (.inr hq2) u, z.bp, z.plt⟩
theorem RdE.small (h : RdE B p W0 l w) : Small l := by obtain ⟨A, c, z⟩ := h; exact z.by_.2
theorem RdE.plt (h : RdE B p W0 l w) : p < W0.heap.size := by obtain ⟨A, c, z⟩ := h; exact z.plt
theorem RdE.bp (h : RdE B p W0 l w) : B ≤ p := by obtain ⟨A, c, z⟩ := h; exact z.bp
theorem RdE.blk (h : RdE B p W0 l w) : ∃ v, Blk w p 170 #[v] := by obtain ⟨A, c, z⟩ := h; exact ⟨_, z.blk⟩
end
def numP (m : Nat) (l : List Nat) : Option (Nat × List Nat) := if m ≤ l.length then some (getL (l.take m), l.drop m) else none
theorem numP_some {m : Nat} {l : List Nat} (h : m ≤ l.length) : numP m l = some (getL (l.take m), l.drop m) := if_pos h
theorem numP_none {m : Nat} {l : List Nat} (h : l.length < m) : numP m l = none := if_neg (by omega)
def chgP (l : List Nat) : Option (ChgP × List Nat) :=
  (numP 4 l).bind fun a => (numP 2 a.2).bind fun b => (numP 1 b.2).bind fun f => if 3 < f.1 then none else
    (bytP f.2).bind fun x => (bytP x.2).bind fun y => some (⟨a.1, b.1, f.1 % 2 == 1, f.1 / 2 % 2 == 1, x.1, y.1⟩, y.2)
structure ChgNew (W0 w : World) (c : ChgP) (m : ChgM) : Prop where
  o1 : w.ownsRow W0.heap.size 5 1 (.slice m.A1 c.before.length m.c1) c.before.length (c.before.map byteV)
  o2 : w.ownsRow W0.heap.size 5 1 (.slice m.A2 c.after.length m.c2) c.after.length (c.after.map byteV)
  fits : c.Fits
theorem own_cap' {w : World} {base : Nat} {e : TypeId} {A : Option Addr} {n c : Nat} {xs : List Value} (h : w.ownsRow base e 1 (.slice A n c) n xs) : n ≤ c := by
  obtain ⟨A', c', e, h1, h2⟩ := own_form h
  injection e with _ _ e
  omega
theorem ChgNew.at_ {W0 w : World} {c : ChgP} {m : ChgM} (h : ChgNew W0 w c m) : ChgAt w w.heap.size c m :=
  ⟨own_bytes h.o1 h.fits.2.2.1, own_bytes h.o2 h.fits.2.2.2, own_cap' h.o1, own_cap' h.o2, h.fits⟩
def ChgPost (B p : Nat) (W0 : World) (l : List Nat) (e : Ending) (w' : World) : Prop :=
  (∃ c r, chgP l = some (c, r) ∧ ∃ m, e = .returned (.agg (chgV c m)) ∧ ChgNew W0 w' c m ∧ RdE B p W0 r w') ∨ (chgP l = none ∧ e = .panicked BadP ∧ Only (fun b => b = p) W0 w')
theorem store_chg_all {w : World} {g : Nat} {cs : Array Value} (h : Blk w g 47 cs) (hs : cs.size = 6) (c : ChgP) (m : ChgM) : (Instr.storeAt 47 (.pointer (some ⟨g, 0, none⟩)) (.agg (chgV c m))).run Tryz.prog w = .ok () (w.setRow g (chgV c m)) := by
  simp only [Instr.storeAt, Instr.sureAddr, Sem.run_bind, Sem.run_pure, Result.andThen_ok]
  exact run_storeVar_row w g 47 47 cs (chgV c m) h size_chg hs (by simp [chgV, Value.oneCell'])
theorem and1 {f : Nat} (h : f ≤ 3) : (bits .and .u64 (f : Int) 1 != 0) = (f % 2 == 1) := by
  rcases (show f = 0 ∨ f = 1 ∨ f = 2 ∨ f = 3 by omega) with rfl | rfl | rfl | rfl <;> rfl
theorem and2 {f : Nat} (h : f ≤ 3) : (bits .and .u64 (f : Int) 2 != 0) = (f / 2 % 2 == 1) := by
  rcases (show f = 0 ∨ f = 1 ∨ f = 2 ∨ f = 3 by omega) with rfl | rfl | rfl | rfl <;> rfl
theorem row_blk {w : World} {g : Nat} {t : TypeId} {cs : Array Value} (h : Blk w g t cs) (cs' : Array Value) : Blk (w.setRow g cs') g t cs' := setRow_heap w g cs cs' t _ h
theorem only_row (w : World) (g : Nat) (cs : Array Value) : Only (fun b => b = g) w (w.setRow g cs) := ⟨rfl, rfl, rfl, by simp [World.setRow], fun x hx hne => setRow_other w g x _ hne⟩
set_option maxHeartbeats 8000000 in
theorem rchange_any {B p : Nat} {W0 w : World} {l : List Nat} (h : RdE B p W0 l w) (hl : l.length ≤ 100000) :
    Calls Tryz.prog 117 #[.pointer (some ⟨p, 0, none⟩)] w (ChgPost B p W0 l) := by
  have hw0 := h.only.size
  have hpw : p < w.heap.size := Nat.lt_of_lt_of_le h.plt hw0
  have hb1 := below_alloc w (.cells #[.int .u32 0, .int .u16 0, .bool false, .bool false, .slice none 0 0, .slice none 0 0] 47)
  have h1 := h.below hb1
  have kR : Blk (w.alloc (.cells #[.int .u32 0, .int .u16 0, .bool false, .bool false, .slice none 0 0, .slice none 0 0] 47)) w.heap.size 47 #[.int .u32 0, .int .u16 0, .bool false, .bool false, .slice none 0 0, .slice none 0 0] := Blk.new w _ _
  have hsm := h.small
  have PAN : ∀ w', Only (fun b => b = p) W0 w' → chgP l = none → ChgPost B p W0 l (.panicked BadP) w' := fun w' a b => .inr ⟨b, rfl, a⟩
  go_enter Tryz.func117, Tryz.ntmps117
  go_upto_region 1 with fail
  generalize World.alloc w _ = w1 at *
  have hneR : w.heap.size ≠ p := by omega
  have c1 := num_any 4 (by omega) h1.here hl
  go_wp2_with fail
  refine c1.mono ?_
  rintro e w2 (⟨hm4, rfl, h2⟩ | ⟨hm, rfl, h2⟩)
  rotate_left
  · exact ⟨rfl, PAN _ (h1.only.trans h2.only fun b q => .inl q) (by unfold chgP; rw [numP_none hm]; rfl)⟩
  have kR2 := kR.only h2.only hneR
  have h2' := h1.back h2
  have c2 := num_any 2 (by omega) h2'.here (by rw [List.length_drop]; omega)
  clear c1 kR h2 hb1
  go_wp2_with fail
  refine c2.mono ?_
  rintro e w3 (⟨hm2, rfl, h3⟩ | ⟨hm, rfl, h3⟩)
  rotate_left
  · exact ⟨rfl, PAN _ (h2'.only.trans h3.only fun b q => .inl q) (by unfold chgP; rw [numP_some hm4]; show (numP 2 _).bind _ = none; rw [numP_none hm]; rfl)⟩
  have kR3 := kR2.only h3.only hneR
  have h3' := h2'.back h3
  have b4 : getL (l.take 4) < 4294967296 := by
    have := getL_lt (l.take 4) (fun x hx => hsm x (List.mem_of_mem_take hx))
    rw [List.length_take, Nat.min_eq_left hm4] at this
    exact this
  have b2 : getL ((l.drop 4).take 2) < 65536 := by
    have := getL_lt ((l.drop 4).take 2) (fun x hx => hsm x (List.mem_of_mem_drop (List.mem_of_mem_take hx)))
    rw [List.length_take, Nat.min_eq_left hm2] at this
    exact this
  have e4 := numP_some hm4
  have e2 := numP_some hm2
  have hl3 : ((l.drop 4).drop 2).length ≤ 100000 := by rw [List.length_drop, List.length_drop]; omega
  generalize hpg : getL (l.take 4) = pg at *
  generalize hsl : getL ((l.drop 4).take 2) = sl at *
  generalize hl3e : (l.drop 4).drop 2 = l3 at *
  have hP1 : chgP l = (numP 1 l3).bind fun f => if 3 < f.1 then none else (bytP f.2).bind fun x => (bytP x.2).bind fun y => some (⟨pg, sl, f.1 % 2 == 1, f.1 / 2 % 2 == 1, x.1, y.1⟩, y.2) := by
    unfold chgP
    rw [e4]
    show (numP 2 _).bind _ = _
    rw [e2]
    rfl
  have HP1 := Lib.hid hP1
  clear hpg hsl hl3e e4 e2 hP1 c2 h3 h2' hm4 hm2
  have vp : (pg : Int) % 4294967296 = (pg : Int) := by omega
  have vs : IntKind.u16.wrap (sl : Int) = (sl : Int) := by rw [IntKind.wrap_u16]; omega
  have hb4 := below_alloc w3 (.cells #[.int .u32 (pg : Nat), .int .u16 (sl : Nat), .bool false, .bool false, .slice none 0 0, .slice none 0 0] 47)
  have kC := Blk.new w3 47 #[.int .u32 (pg : Nat), .int .u16 (sl : Nat), .bool false, .bool false, .slice none 0 0, .slice none 0 0]
  have kR4 := kR3.below hb4 kR3.lt
  have h4 := h3'.below hb4
  have hpw3 : p < w3.heap.size := Nat.lt_of_lt_of_le h3'.plt h3'.only.size
  have hRC : w.heap.size < w3.heap.size := kR3.lt
  have hW03 : W0.heap.size ≤ w3.heap.size := h3'.only.size
  clear kR2 kR3 h3' hb4
  go_upto_region 2 with fail
  generalize World.alloc w3 _ = w4 at *
  generalize hgC : w3.heap.size = gC at *
  clear hgC
  have hneC : gC ≠ p := by omega
  have c3 := num_any 1 (by omega) h4.here hl3
  go_wp2_with fail
  refine c3.mono ?_
  rintro e w5 (⟨hm1, rfl, h5⟩ | ⟨hm, rfl, h5⟩)
  rotate_left
  · exact ⟨rfl, PAN _ (h4.only.trans h5.only fun b q => .inl q) (by rw [HP1.out, numP_none hm]; rfl)⟩
  have kR5 := kR4.only h5.only hneR
  have kC5 := kC.only h5.only hneC
  have h5' := h4.back h5
  have b1 := getL1_lt h4.small
  have e1 := numP_some hm1
  have hl4 : (l3.drop 1).length ≤ 100000 := by rw [List.length_drop]; omega
  generalize getL (l3.take 1) = f at *
  generalize l3.drop 1 = l4 at *
  have hP2 : chgP l = if 3 < f then none else (bytP l4).bind fun x => (bytP x.2).bind fun y => some (⟨pg, sl, f % 2 == 1, f / 2 % 2 == 1, x.1, y.1⟩, y.2) := by rw [HP1.out, e1]; rfl
  clear e1 HP1 c3 kR4 kC h4 h5 hm1
  rcases Nat.lt_or_ge 3 f with z | z
  · have t1 : decide ((3 : Int) < (f : Int)) = true := by rw [decide_eq_true_iff]; omega
    rw [if_pos z] at hP2
    have FIN := Lib.hid (PAN _ h5'.only hP2)
    clear z hP2 PAN h5'
    go_wp2
    exact ⟨rfl, FIN.out⟩
  have t1 : decide ((3 : Int) < (f : Int)) = false := by rw [decide_eq_false_iff_not]; omega
  rw [if_neg (by omega)] at hP2
  have HP2 := Lib.hid hP2
  have a1 := and1 z
  have a2 := and2 z
  generalize (f % 2 == 1) = had at *
  generalize (f / 2 % 2 == 1) = has at *
  have ff2 := kC5.frozen 2
  have fc2 := kC5.cell 2
  have kC6 := kC5.set_ 2 (.bool had)
  have ff3 := kC6.frozen 3
  have fc3 := kC6.cell 3
  have kC7 : Blk ((w5.setCell ⟨gC, 2, none⟩ (.bool had)).setCell ⟨gC, 3, none⟩ (.bool has)) gC 47 (chgV ⟨pg, sl, had, has, [], []⟩ ⟨none, 0, none, 0⟩) := kC6.set_ 3 (.bool has)
  have kR7 := (kR5.far (p := ⟨gC, 2, none⟩) (by show w.heap.size ≠ gC; omega) (.bool had)).far (p := ⟨gC, 3, none⟩) (by show w.heap.size ≠ gC; omega) (.bool has)
  have h7 := (h5'.set (q := ⟨gC, 2, none⟩) hneC (by show W0.heap.size ≤ gC; omega) (.bool had)).set (q := ⟨gC, 3, none⟩) hneC (by show W0.heap.size ≤ gC; omega) (.bool has)
  clear kC5 kC6 kR5 h5' hP2 z
  go_upto_region 6 with fail
  generalize World.setCell (World.setCell w5 _ _) _ _ = w7 at *
  have hW07 : W0.heap.size ≤ w7.heap.size := h7.only.size
  have hgC7 := kC7.lt
  have cb := rbytes_any h7.here hl4
  clear ff2 fc2 ff3 fc3 a1 a2 t1
  go_wp2_with fail
  refine cb.mono ?_
  rintro e w8 (⟨bf, r5, hb5, A5, c5, rfl, o5, s5, h8⟩ | ⟨hn, rfl, hO⟩)
  rotate_left
  · exact ⟨rfl, PAN _ (h7.only.trans hO fun b q => .inl q) (by rw [HP2.out, hn]; rfl)⟩
  have hr5 : r5.length ≤ 100000 := by
    unfold bytP at hb5
    split at hb5
    · injection hb5 with hb5
      injection hb5 with _ hb5
      rw [← hb5, List.length_drop, List.length_drop]
      omega
    · cases hb5
  have hP3 : chgP l = (bytP r5).bind fun y => some (⟨pg, sl, had, has, bf, y.1⟩, y.2) := by rw [HP2.out, hb5]; rfl
  have kC8 := kC7.only h8.only hneC
  have kR8 := kR7.only h8.only hneR
  have h8' := h7.back h8
  have ff4 := kC8.frozen 4
  have fc4 := kC8.cell 4
  have ob5 := own_block (by decide) o5 kC8
  have kC9 : Blk (w8.setCell ⟨gC, 4, none⟩ (.slice A5 bf.length c5)) gC 47 (chgV ⟨pg, sl, had, has, bf, []⟩ ⟨A5, c5, none, 0⟩) := kC8.set_ 4 (.slice A5 bf.length c5)
  have kR9 := kR8.far (p := ⟨gC, 4, none⟩) (by show w.heap.size ≠ gC; omega) (.slice A5 bf.length c5)
  have h9 := h8'.set (q := ⟨gC, 4, none⟩) hneC (by show W0.heap.size ≤ gC; omega) (.slice A5 bf.length c5)
  have o9 := o5.kept (row := some gC) (((Only.refl (fun b => b = gC) w8).setCell (p := ⟨gC, 4, none⟩) (.inl rfl) (.slice A5 bf.length c5)).grown (fun k hk => by rw [hk])) (ob5.imp id id)
  have HP3 := Lib.hid hP3
  clear cb HP2 hb5 h8 kC7 kR7 h7 kC8 kR8 h8' o5 ob5 hP3
  go_upto_region 7 with fail
  generalize World.setCell w8 _ _ = w9 at *
  have cb2 := rbytes_any h9.here hr5
  clear ff4 fc4
  go_wp2_with fail
  refine cb2.mono ?_
  rintro e w10 (⟨af, r6, hb6, A6, c6, rfl, o6, s6, h10⟩ | ⟨hn, rfl, hO⟩)
  rotate_left
  · exact ⟨rfl, PAN _ (h9.only.trans hO fun b q => .inl q) (by rw [HP3.out, hn]; rfl)⟩
  have hP4 : chgP l = some (⟨pg, sl, had, has, bf, af⟩, r6) := by rw [HP3.out, hb6]; rfl
  have kC10 := kC9.only h10.only hneC
  have kR10 := kR9.only h10.only hneR
  obtain ⟨vR, kRd⟩ := h9.blk
  have o10 := h10.only.own o9 fun k hk e => by
    rcases own_block (by decide) o9 kRd with z | z
    · rw [z] at hk; cases hk
    · rw [e] at hk; exact z hk
  have h10' := h9.back h10
  have ff5 := kC10.frozen 5
  have fc5 := kC10.cell 5
  have kC11 : Blk (w10.setCell ⟨gC, 5, none⟩ (.slice A6 af.length c6)) gC 47 (chgV ⟨pg, sl, had, has, bf, af⟩ ⟨A5, c5, A6, c6⟩) := kC10.set_ 5 (.slice A6 af.length c6)
  have kR11 := kR10.far (p := ⟨gC, 5, none⟩) (by show w.heap.size ≠ gC; omega) (.slice A6 af.length c6)
  have h11 := h10'.set (q := ⟨gC, 5, none⟩) hneC (by show W0.heap.size ≤ gC; omega) (.slice A6 af.length c6)
  have hG : w10.grownBy (w10.setCell ⟨gC, 5, none⟩ (.slice A6 af.length c6)) (some gC) := ((Only.refl (fun b => b = gC) w10).setCell (p := ⟨gC, 5, none⟩) (.inl rfl) (.slice A6 af.length c6)).grown (fun k hk => by rw [hk])
  have o11 := o10.kept (row := some gC) hG ((own_block (by decide) o10 kC10).imp id id)
  have o12 := o6.kept (row := some gC) hG ((own_block (by decide) o6 kC10).imp id id)
  have hW09 : W0.heap.size ≤ w9.heap.size := h9.only.size
  clear cb2 HP3 hb6 h10 kC9 kR9 h9 kC10 kR10 h10' o6 o9 o10 hG kRd
  go_upto_region 8 with fail
  generalize World.setCell w10 _ _ = w11 at *
  have ld := load_chg0 kC11
  have st := store_chg_all kR11 rfl ⟨pg, sl, had, has, bf, af⟩ ⟨A5, c5, A6, c6⟩
  have hO12 := only_row w11 w.heap.size (chgV ⟨pg, sl, had, has, bf, af⟩ ⟨A5, c5, A6, c6⟩)
  have kR12 := row_blk kR11 (chgV ⟨pg, sl, had, has, bf, af⟩ ⟨A5, c5, A6, c6⟩)
  have q1 := hO12.own o11 fun k hk e => by
    rcases own_block (by decide) o11 kR11 with z | z
    · rw [z] at hk; cases hk
    · rw [e] at hk; exact z hk
  have q2 := hO12.own o12 fun k hk e => by
    rcases own_block (by decide) o12 kR11 with z | z
    · rw [z] at hk; cases hk
    · rw [e] at hk; exact z hk
  have h12 : RdE B p W0 r6 (w11.setRow w.heap.size (chgV ⟨pg, sl, had, has, bf, af⟩ ⟨A5, c5, A6, c6⟩)) := by
    obtain ⟨A, c, z⟩ := h11
    exact ⟨A, c, z.blk.only hO12 (fun e => hneR e.symm), z.by_, z.cap, z.only.trans hO12 fun b q => .inr (by rw [q]; exact hw0), z.bp, z.plt⟩
  have FIN : Hid (ChgPost B p W0 l (.returned (.agg (chgV ⟨pg, sl, had, has, bf, af⟩ ⟨A5, c5, A6, c6⟩))) (w11.setRow w.heap.size (chgV ⟨pg, sl, had, has, bf, af⟩ ⟨A5, c5, A6, c6⟩))) :=
    Lib.hid (.inl ⟨_, r6, hP4, ⟨A5, c5, A6, c6⟩, rfl, ⟨own_base hW07 q1, own_base hW09 q2, ⟨b4, b2, s5, s6⟩⟩, h12⟩)
  clear hP4 kC11 kR11 h11 o11 o12 hO12 q1 q2 h12 ff5 fc5 PAN
  go_wp2_with (first | (refine wpList_load_run rfl 47 (.tmp 3) _ _ rfl rfl ld ?_; clear ld) | (refine wpList_store_run rfl 47 (.tmp 2) (.tmp 32) _ _ rfl rfl rfl st ?_; clear st))
  refine bodyPost_ret (results_cell_row rfl _ _ w.heap.size 47 _ (0, 0) _ rfl kR12 Tryz.underlying47 rfl size_chg) rfl ?_
  exact FIN.out
end Go.Proofs.YtkganajbilnanaaGreat
namespace Go.Proofs.YtkganajbilnanaaGreat
open Go.RowKit
theorem wp_append_cells {P : Program} {w : World} {o : Oper} {a : Act} {K : Act → World → Prop} {Q : Exit → Act → World → Prop} (s x : Operand) (t : TypeId)
    (ho : o.op = .call { callee := .builtin .append, args := #[s, x], argTypes := #[t, t] })
    (base : Nat) (e : TypeId) (i : TypeInfo) (z : Value) (size bytes : Nat) (ht : P.underlying t = some (.slice e)) (hi : P.info? e = some i) (hz : i.zero = some z)
    (hsize : i.size = size) (hby : i.bytes = bytes) (hzs : z.cells.size = size) (hsz : 0 < size) (v : Value) (n : Nat) (xs : List Value) (hs : a.eval s = v) (hown : w.ownsRow base e size v n xs)
    (ad : Addr) (m c : Nat) (news : List Value) (hx : a.eval x = .slice (some ad) m c) (hl : news.length = m * size) (hnews : ∀ j u, news[j]? = some u → w.cell? (ad.add j) = some u) (h1 : ∀ u ∈ news, u.oneCell' = true)
    (h63 : n + m ≤ maxLen) (hbytes : (n + m) * bytes ≤ 140737488355328) (hbase : base ≤ w.heap.size)
    (h : ∀ A' c' w', w'.ownsRow base e size (.slice A' (n + m) c') (n + m) (xs ++ news) → w.grownBy w' v.ownBlock → ((Value.slice A' (n + m) c').ownBlock = v.ownBlock ∨ (Value.slice A' (n + m) c').ownBlock = some w.heap.size) →
      K (a.put o.dst (.slice A' (n + m) c')) w') : o.wp P a w K Q := by
  obtain ⟨v', w', hrun, h2, h3, _, h5⟩ := run_append_own_at (P := P) w base t o.type e i z size bytes ht hi hz hsize hby hzs hsz v n xs hown ad m c news hl hnews h1 h63 hbytes hbase
  obtain ⟨A', c', rfl, _⟩ := own_form h2
  unfold Oper.wp execOp
  simp only [ho, resolve, invoke, builtin, Sem.run_bind, Sem.run_pure, Result.andThen_ok, List.map_toArray, List.map_cons, List.map_nil, hs, hx, hrun]
  exact h A' c' w' h2 h3 h5
theorem step_append_cells {P : Program} {w : World} {ops : Array Oper} {o : Oper} {a : Act} {K : Act → World → Prop} {Q : Exit → Act → World → Prop} {E : Prop} (hgd : o.guard = none) (s x : Operand) (t : TypeId)
    (ho : o.op = .call { callee := .builtin .append, args := #[s, x], argTypes := #[t, t] })
    (base : Nat) (e : TypeId) (i : TypeInfo) (z : Value) (size bytes : Nat) (ht : P.underlying t = some (.slice e)) (hi : P.info? e = some i) (hz : i.zero = some z)
    (hsize : i.size = size) (hby : i.bytes = bytes) (hzs : z.cells.size = size) (hsz : 0 < size) (v : Value) (n : Nat) (xs : List Value) (hs : a.eval s = v) (hown : w.ownsRow base e size v n xs)
    (ad : Addr) (m c : Nat) (news : List Value) (hx : a.eval x = .slice (some ad) m c) (hl : news.length = m * size) (hnews : ∀ j u, news[j]? = some u → w.cell? (ad.add j) = some u) (h1 : ∀ u ∈ news, u.oneCell' = true)
    (h63 : n + m ≤ maxLen) (hbytes : (n + m) * bytes ≤ 140737488355328) (hbase : base ≤ w.heap.size)
    (h : ∀ A' c' w', w'.ownsRow base e size (.slice A' (n + m) c') (n + m) (xs ++ news) → w.grownBy w' v.ownBlock → ((Value.slice A' (n + m) c').ownBlock = v.ownBlock ∨ (Value.slice A' (n + m) c').ownBlock = some w.heap.size) →
      K (a.put o.dst (.slice A' (n + m) c')) w') : if Region.wanted o (yielded ops a.tmps) = true then Oper.wp P o a w K Q else E := by
  have hw : Region.wanted o (yielded ops a.tmps) = true := by simp [Region.wanted, hgd]
  rw [if_pos hw]
  exact wp_append_cells s x t ho base e i z size bytes ht hi hz hsize hby hzs hsz v n xs hs hown ad m c news hx hl hnews h1 h63 hbytes hbase h
theorem wpList_append_cells {P : Program} {w : World} {ops : Array Oper} {rest : List Oper} {o : Oper} {a : Act} {Q : Exit → Act → World → Prop} (hgd : o.guard = none) (s x : Operand) (t : TypeId)
    (ho : o.op = .call { callee := .builtin .append, args := #[s, x], argTypes := #[t, t] })
    (base : Nat) (e : TypeId) (i : TypeInfo) (z : Value) (size bytes : Nat) (ht : P.underlying t = some (.slice e)) (hi : P.info? e = some i) (hz : i.zero = some z)
    (hsize : i.size = size) (hby : i.bytes = bytes) (hzs : z.cells.size = size) (hsz : 0 < size) (v : Value) (n : Nat) (xs : List Value) (hs : a.eval s = v) (hown : w.ownsRow base e size v n xs)
    (ad : Addr) (m c : Nat) (news : List Value) (hx : a.eval x = .slice (some ad) m c) (hl : news.length = m * size) (hnews : ∀ j u, news[j]? = some u → w.cell? (ad.add j) = some u) (h1 : ∀ u ∈ news, u.oneCell' = true)
    (h63 : n + m ≤ maxLen) (hbytes : (n + m) * bytes ≤ 140737488355328) (hbase : base ≤ w.heap.size)
    (h : ∀ A' c' w', w'.ownsRow base e size (.slice A' (n + m) c') (n + m) (xs ++ news) → w.grownBy w' v.ownBlock → ((Value.slice A' (n + m) c').ownBlock = v.ownBlock ∨ (Value.slice A' (n + m) c').ownBlock = some w.heap.size) →
      wpList P ops Q rest (a.put o.dst (.slice A' (n + m) c')) w') : wpList P ops Q (o :: rest) a w :=
  wpList_plain hgd fun _ hK => wp_append_cells s x t ho base e i z size bytes ht hi hz hsize hby hzs hsz v n xs hs hown ad m c news hx hl hnews h1 h63 hbytes hbase fun A' c' w' h2 h3 h4 => hK _ _ (h A' c' w' h2 h3 h4)
theorem new_row_cells (w : World) (news : List Value) (t : TypeId) (f : Nat × Nat) (j : Nat) (u : Value) (h : news[j]? = some u) : (w.alloc (.cells news.toArray t f)).cell? ((⟨w.heap.size, 0, none⟩ : Addr).add j) = some u := by
  obtain ⟨hj, hju⟩ := List.getElem?_eq_some_iff.1 h
  obtain ⟨b, o, he, _, hc⟩ := At.new w news t f j hj
  injection he with he
  injection he with e1 e2
  subst e1
  subst e2
  have : (⟨w.heap.size, 0, none⟩ : Addr).add j = ⟨w.heap.size, 0 + j, none⟩ := by
    unfold Addr.add
    split
    · subst_vars; rfl
    · rfl
  rw [this, hc, hju]
end Go.Proofs.YtkganajbilnanaaGreat
namespace Go.Proofs.YtkganajbilnanaaGreat
open Go.ChangeShapes Go.WideShapes Go.ChangeAt Go.RowKit
open NumMath
set_option maxRecDepth 20000
def txP (l : List Nat) : Option (TxP × List Nat) :=
  (numP 4 l).bind fun a => (numP 8 a.2).bind fun b => (numP 8 b.2).bind fun c => (numP 1 c.2).bind fun d => some (⟨a.1, b.1, c.1, d.1⟩, d.2)
def dirP (l : List Nat) : Option (DirP × List Nat) := (numP 4 l).bind fun a => (numP 8 a.2).bind fun b => some (⟨a.1, b.1⟩, b.2)
def txsK : Nat → List Nat → Option (List TxP × List Nat)
  | 0, l => some ([], l)
  | k + 1, l => (txsK k l).bind fun q => (txP q.2).bind fun x => some (q.1 ++ [x.1], x.2)
def dirsK : Nat → List Nat → Option (List DirP × List Nat)
  | 0, l => some ([], l)
  | k + 1, l => (dirsK k l).bind fun q => (dirP q.2).bind fun x => some (q.1 ++ [x.1], x.2)
def tabP (l : List Nat) : Option ((List TxP × List DirP) × List Nat) :=
  (numP 1 l).bind fun n => (txsK n.1 n.2).bind fun t => (numP 1 t.2).bind fun m => (dirsK m.1 m.2).bind fun d => some ((t.1, d.1), d.2)
theorem txsK_none {k n : Nat} {l : List Nat} (h : txsK k l = none) (hk : k ≤ n) : txsK n l = none := by
  induction n with
  | zero => obtain rfl : k = 0 := by omega
            exact h
  | succ n ih =>
    rcases Nat.lt_or_ge k (n + 1) with z | z
    · show (txsK n l).bind _ = none
      rw [ih (by omega)]
      rfl
    · obtain rfl : k = n + 1 := by omega
      exact h
theorem dirsK_none {k n : Nat} {l : List Nat} (h : dirsK k l = none) (hk : k ≤ n) : dirsK n l = none := by
  induction n with
  | zero => obtain rfl : k = 0 := by omega
            exact h
  | succ n ih =>
    rcases Nat.lt_or_ge k (n + 1) with z | z
    · show (dirsK n l).bind _ = none
      rw [ih (by omega)]
      rfl
    · obtain rfl : k = n + 1 := by omega
      exact h
theorem getL_take_lt {l : List Nat} (h : Small l) (m : Nat) : getL (l.take m) < 256 ^ m := by
  have := getL_lt (l.take m) (fun x hx => h x (List.mem_of_mem_take hx))
  exact Nat.lt_of_lt_of_le this (Nat.pow_le_pow_right (n := 256) (by omega) (by rw [List.length_take]; omega))
theorem small_drop {l : List Nat} (h : Small l) (m : Nat) : Small (l.drop m) := fun x hx => h x (List.mem_of_mem_drop hx)
theorem num_step (m : Nat) (h8 : m ≤ 8) (l : List Nat) (hs : Small l) (hl : l.length ≤ 100000) : ∃ a l', getL (l.take m) = a ∧ l.drop m = l' ∧ a < 256 ^ m ∧ Small l' ∧ l'.length ≤ 100000 ∧ (m ≤ l.length → numP m l = some (a, l')) ∧ (l.length < m → numP m l = none) ∧
    ∀ (B p : Nat) (W0 w : World), RdE B p W0 l w → Calls Tryz.prog 116 #[.pointer (some ⟨p, 0, none⟩), .int .i64 m] w fun e w' => (m ≤ l.length ∧ e = .returned (.int .u64 (a : Nat)) ∧ RdE B p W0 l' w') ∨ (l.length < m ∧ e = .panicked BadP ∧ RdE B p W0 l w') :=
  ⟨_, _, rfl, rfl, getL_take_lt hs m, small_drop hs m, by rw [List.length_drop]; omega, numP_some, numP_none, fun B p W0 w h => num_any m h8 h hl⟩
theorem RdE.rebase {B p : Nat} {w w' : World} {l : List Nat} {S : Nat → Prop} (h : RdE B p w l w) (hO : Only S w w') (hp : ¬ S p) (hB : ∀ b, S b → B ≤ b) : RdE B p w' l w' := by
  obtain ⟨A, c, z⟩ := h
  have hk := z.blk.only hO hp
  exact ⟨A, c, hk, z.by_.below (hO.below (Nat.le_trans z.bp (Nat.le_of_lt z.plt)) hB), z.cap, Only.refl _ _, z.bp, hk.lt⟩
structure TabI (B p bx : Nat) (cs : Array Value) (W0 : World) (e : TypeId) (size i : Nat) (cells : List Value) (n : Nat) (l : List Nat) (w : World) (A : Option Addr) (c : Nat) : Prop where
  blk : Blk w bx 51 (cs.setIfInBounds i (.slice A n c))
  own : w.ownsRow W0.heap.size e size (.slice A n c) n cells
  rd : RdE B p w l w
  only : Only (fun b => b = p ∨ b = bx) W0 w
section
variable {B p bx size i n : Nat} {cs : Array Value} {W0 w : World} {e : TypeId} {cells : List Value} {l l' : List Nat} {A : Option Addr} {c : Nat}
theorem TabI.ne (h : TabI B p bx cs W0 e size i cells n l w A c) : bx ≠ p := by
  obtain ⟨v, hv⟩ := h.rd.blk
  exact h.blk.ne_ hv (by decide)
theorem TabI.away (h : TabI B p bx cs W0 e size i cells n l w A c) (he : e ≠ 51) (he2 : e ≠ 170) : (∀ k, (Value.slice A n c).ownBlock = some k → k ≠ p ∧ k ≠ bx) := fun k hk => by
  obtain ⟨v, hv⟩ := h.rd.blk
  constructor
  · intro q
    rcases own_block he2 h.own hv with z | z
    · rw [z] at hk; cases hk
    · rw [q] at hk; exact z hk
  · intro q
    rcases own_block he h.own h.blk with z | z
    · rw [z] at hk; cases hk
    · rw [q] at hk; exact z hk
theorem TabI.read (h : TabI B p bx cs W0 e size i cells n l w A c) (he : e ≠ 51) (he2 : e ≠ 170) {w5 : World} (h5 : RdE B p w.drew l' w5) : TabI B p bx cs W0 e size i cells n l' w5 A c := by
  have hO : Only (fun b => b = p) w w5 := (Only.of_below (below_drew0 w) (fun b => b = p)).trans h5.only fun b q => .inl q
  exact ⟨h.blk.only hO h.ne, hO.own h.own fun k hk => (h.away he he2 k hk).1, h5.here, h.only.trans hO fun b q => .inl (.inl q)⟩
theorem TabI.step (h : TabI B p bx cs W0 e size i cells n l w A c) (he : e ≠ 51) (he2 : e ≠ 170) (hW : B ≤ W0.heap.size) (hB : B ≤ bx) (hbx : bx < W0.heap.size) (o : Obj) {news : List Value} {w7 : World} {A7 : Option Addr} {c7 : Nat}
    (ho : w7.ownsRow W0.heap.size e size (.slice A7 (n + 1) c7) (n + 1) (cells ++ news)) (hg : (w.alloc o).grownBy w7 (Value.slice A n c).ownBlock) :
    Blk w7 bx 51 (cs.setIfInBounds i (.slice A n c)) ∧ TabI B p bx cs W0 e size i (cells ++ news) (n + 1) l (w7.setCell ⟨bx, i, none⟩ (.slice A7 (n + 1) c7)) A7 c7 := by
  have haw := h.away he he2
  have hb : Below w.heap.size w (w.alloc o) := (Below.refl _ w).alloc (Nat.le_refl _) o
  have hO1 : Only (fun b => (Value.slice A n c).ownBlock = some b) w w7 := (Only.of_below hb _).trans (Only.of_grown (S := fun b => (Value.slice A n c).ownBlock = some b) hg fun k hk => .inl hk) fun b q => .inl q
  have hk := h.blk.only hO1 fun q => (haw _ q).2 rfl
  have hO2 : Only (fun b => (Value.slice A n c).ownBlock = some b ∨ b = bx) w (w7.setCell ⟨bx, i, none⟩ (.slice A7 (n + 1) c7)) := (hO1.mono fun b q => .inl (.inl q)).setCell (p := ⟨bx, i, none⟩) (.inl (.inr rfl)) _
  have hlow : ∀ k, (Value.slice A n c).ownBlock = some k → W0.heap.size ≤ k := fun k hk => (h.own.lt k hk).1
  refine ⟨hk, ?_, ?_, ?_, ?_⟩
  · have := hk.set_ i (.slice A7 (n + 1) c7)
    rwa [Array.setIfInBounds_setIfInBounds] at this
  · exact ho.kept (row := some bx) (((Only.refl (fun b => b = bx) w7).setCell (p := ⟨bx, i, none⟩) (.inl rfl) _).grown (fun k hk => by rw [hk])) ((own_block he ho hk).imp id id)
  · exact h.rd.rebase hO2 (fun q => q.elim (fun q => (haw _ q).1 rfl) fun q => h.ne q.symm) fun b q => q.elim (fun q => Nat.le_trans hW (hlow b q)) fun q => by rw [q]; exact hB
  · exact h.only.trans hO2 fun b q => q.elim (fun q => .inr (hlow b q)) fun q => .inl (.inr q)
end
theorem tx_info : (Tryz.prog.info? 145).map (fun i => (i.zero, i.size, i.bytes)) = some (some (.agg #[.int .u32 0, .int .u64 0, .int .u64 0, .int .u8 0]), 4, 32) := by kernel_rfl
theorem dir_info : (Tryz.prog.info? 147).map (fun i => (i.zero, i.size, i.bytes)) = some (some (.agg #[.int .u32 0, .int .u64 0]), 2, 16) := by kernel_rfl
end Go.Proofs.YtkganajbilnanaaGreat
