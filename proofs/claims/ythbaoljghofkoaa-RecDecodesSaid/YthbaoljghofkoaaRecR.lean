/- rec: the reader: take, number, bytes. Conditions: as stated. -/
import Derived.Test.YthbaoljghofkoaaRecC
import Derived.Test.YthbaoljghofkoaaClone
namespace Go.Proofs.Ythbaoljghofkoaa
open Go.ChangeShapes Go.WideShapes Go.ChangeAt Go.RowKit
open NumMath
set_option linter.unusedVariables false
set_option linter.unusedSimpArgs false
set_option maxRecDepth 20000

/-- what a reader panics with -/
def BadP : List PanicEntry := [{ v := .iface 88 (.agg #[]), recovered := false }]
/-- A reader in block p that has the bytes l left (below block B); since W0 only p, and new blocks, have turned. -/
structure Rd (B p : Nat) (W0 : World) (l : List Nat) (w : World) (A : Option Addr) (c : Nat) : Prop where
  blk : Blk w p 79 #[.slice A l.length c]
  by_ : Bytes W0 B A l
  cap : l.length ≤ c
  only : Only (fun b => b = p) W0 w
  bp : B ≤ p
  plt : p < W0.heap.size
def RdE (B p : Nat) (W0 : World) (l : List Nat) (w : World) : Prop := ∃ A c, Rd B p W0 l w A c
theorem RdE.only {B p : Nat} {W0 w : World} {l : List Nat} (h : RdE B p W0 l w) : Only (fun b => b = p) W0 w := by obtain ⟨A, c, z⟩ := h; exact z.only
theorem RdE.below {B p : Nat} {W0 w w' : World} {l : List Nat} (h : RdE B p W0 l w) (hb : Below w.heap.size w w') : RdE B p W0 l w' := by
  obtain ⟨A, c, z⟩ := h
  exact ⟨A, c, z.blk.below hb z.blk.lt, z.by_, z.cap, z.only.trans (Only.of_below hb (fun b => b = p)) fun b q => .inl q, z.bp, z.plt⟩
theorem Rd.low {B p : Nat} {W0 w : World} {l : List Nat} {A : Option Addr} {c : Nat} (h : Rd B p W0 l w A c) : Below B W0 w := h.only.below (Nat.le_trans h.bp (Nat.le_of_lt h.plt)) fun b q => by rw [q]; exact h.bp
theorem bytes_add {w : World} {B : Nat} {A : Option Addr} {l : List Nat} (h : Bytes w B A l) (k : Nat) : Bytes w B (A.map (·.add k)) (l.drop k) := by
  have hd := h.drop k
  refine ⟨fun j hj => ?_, hd.2⟩
  obtain ⟨b, o, e, h1, h2⟩ := hd.1 j hj
  cases A with
  | none => cases e
  | some a =>
    obtain ⟨b', o', e', _⟩ := h.1 (k + j) (by simp at hj ⊢; omega)
    injection e' with e'
    subst e'
    simp only [shift, Option.map_some, Option.some.injEq, Addr.mk.injEq, and_true] at e
    obtain ⟨rfl, rfl⟩ := e
    refine ⟨b', o' + k, ?_, h1, h2⟩
    simp only [Option.map_some, Option.some.injEq]
    unfold Addr.add
    split
    · subst_vars; rfl
    · rfl
theorem Rd.set {B p : Nat} {W0 w : World} {l : List Nat} {A A' : Option Addr} {c c' m : Nat} (h : Rd B p W0 l w A c) (hb : Bytes W0 B A' (l.drop m)) (hc : l.length - m ≤ c') : RdE B p W0 (l.drop m) (w.setCell ⟨p, 0, none⟩ (.slice A' (l.length - m) c')) := by
  refine ⟨A', c', ?_, hb, by rw [List.length_drop]; exact hc, h.only.setCell (p := ⟨p, 0, none⟩) (.inl rfl) _, h.bp, h.plt⟩
  rw [List.length_drop]
  exact h.blk.set_ 0 _
def TakePost (n B p : Nat) (W0 : World) (l : List Nat) (e : Ending) (w' : World) : Prop :=
  (n ≤ l.length ∧ ∃ A' c', e = .returned (.slice A' n c') ∧ Bytes W0 B A' (l.take n) ∧ n ≤ c' ∧ RdE B p W0 (l.drop n) w') ∨ (l.length < n ∧ e = .panicked BadP ∧ RdE B p W0 l w')
set_option maxHeartbeats 4000000 in
theorem take_any (n : Nat) {B p : Nat} {W0 w : World} {l : List Nat} (h : RdE B p W0 l w) (hl : l.length ≤ 100000) :
    Calls Try.prog 46 #[.pointer (some ⟨p, 0, none⟩), .int .i64 n] w (TakePost n B p W0 l) := by
  obtain ⟨A, c, h⟩ := h
  have hc := h.blk.cell 0
  have hf := h.blk.frozen 0
  rcases Nat.lt_or_ge l.length n with z | z
  · have t1 : decide ((l.length : Int) < (n : Int)) = true := by rw [decide_eq_true_iff]; omega
    have FIN : Hid (TakePost n B p W0 l (.panicked BadP) w) := Lib.hid (.inr ⟨z, rfl, A, c, h⟩)
    clear h t1
    go_enter Try.func46, Try.ntmps46
    go_wp2
    exact ⟨rfl, FIN.out⟩
  · have t1 : decide ((l.length : Int) < (n : Int)) = false := by rw [decide_eq_false_iff_not]; omega
    have hcap := h.cap
    have s1 : (n : Int) ≤ (l.length : Int) := by omega
    have s2 : (n : Int) ≤ (c : Int) := by omega
    have s3 : (0 : Int) ≤ (n : Int) := by omega
    have s4 : (l.length : Int) ≤ (c : Int) := by omega
    have htk := h.by_.take n
    have FIN : ∀ A', Bytes W0 B A' (l.drop n) → TakePost n B p W0 l (.returned (.slice A n c)) (w.setCell ⟨p, 0, none⟩ (.slice A' (l.length - n) (c - n))) := fun A' hA' => .inl ⟨z, A, c, rfl, htk, by omega, h.set hA' (by omega)⟩
    by_cases hcn : c = n
    · subst hcn
      have hd : l.drop c = [] := List.drop_eq_nil_of_le (by omega)
      have FIN1 := FIN A (by rw [hd]; exact Bytes.nil _ _ _)
      rw [Nat.sub_self, Nat.sub_eq_zero_of_le hcap] at FIN1
      have FIN2 := Lib.hid FIN1
      clear FIN1
      have z' : ¬ l.length < c := by omega
      clear FIN htk h hd z t1
      go_enter Try.func46, Try.ntmps46
      go_wp2
      go_ret
      exact FIN2.out
    · have e1 : (c = n) = False := eq_false hcn
      have FIN2 := Lib.hid (FIN _ (bytes_add h.by_ n))
      have z' : ¬ l.length < n := by omega
      clear FIN htk h z hcn t1
      go_enter Try.func46, Try.ntmps46
      go_wp2
      go_ret
      exact FIN2.out
def NumPost (m B p : Nat) (W0 : World) (l : List Nat) (e : Ending) (w' : World) : Prop :=
  (m ≤ l.length ∧ e = .returned (.int .u64 (getL (l.take m) : Nat)) ∧ RdE B p W0 (l.drop m) w') ∨ (l.length < m ∧ e = .panicked BadP ∧ RdE B p W0 l w')
theorem num_any (m : Nat) (h8 : m ≤ 8) {B p : Nat} {W0 w : World} {l : List Nat} (h : RdE B p W0 l w) (hl : l.length ≤ 100000) :
    Calls Try.prog 47 #[.pointer (some ⟨p, 0, none⟩), .int .i64 m] w (NumPost m B p W0 l) := by
  have ct := take_any m h hl
  clear h
  go_enter Try.func47, Try.ntmps47
  go_wp2_with fail
  refine ct.mono ?_
  rintro e w1 (⟨hm, A, c, rfl, hb, hc, hr⟩ | ⟨hm, rfl, hr⟩)
  · obtain ⟨A1, c1, z⟩ := hr
    have hlm : (l.take m).length = m := by rw [List.length_take]; omega
    have hget := get_any A c (l.take m) B w1 (hb.below z.low) (by rw [hlm]; omega) (by rw [hlm]; exact hc)
    rw [hlm, List.take_take, Nat.min_eq_right h8] at hget
    have FIN : Hid (NumPost m B p W0 l (.returned (.int .u64 (getL (l.take m) : Nat))) w1) := Lib.hid (.inl ⟨hm, rfl, A1, c1, z⟩)
    clear ct z hb
    go_wp2_with fail
    refine hget.mono ?_
    rintro e w2 ⟨rfl, rfl⟩
    go_wp2
    go_ret
    exact FIN.out
  · exact ⟨rfl, .inr ⟨hm, rfl, hr⟩⟩
/-- the bytes behind a length -/
def bytP (l : List Nat) : Option (List Nat × List Nat) := if 1 ≤ l.length ∧ getL (l.take 1) ≤ (l.drop 1).length then some ((l.drop 1).take (getL (l.take 1)), (l.drop 1).drop (getL (l.take 1))) else none
def BytPost (B p : Nat) (W0 : World) (l : List Nat) (e : Ending) (w' : World) : Prop :=
  (∃ d r, bytP l = some (d, r) ∧ ∃ A c, e = .returned (.slice A d.length c) ∧ w'.ownsRow W0.heap.size 5 1 (.slice A d.length c) d.length (d.map byteV) ∧ Small d ∧ RdE B p W0 r w') ∨ (bytP l = none ∧ e = .panicked BadP ∧ Only (fun b => b = p) W0 w')
theorem getL1_lt {l : List Nat} (hs : Small l) : getL (l.take 1) < 256 := by
  have := getL_lt (l.take 1) (fun x hx => hs x (List.mem_of_mem_take hx))
  have h1 : (l.take 1).length ≤ 1 := by rw [List.length_take]; omega
  exact Nat.lt_of_lt_of_le this (Nat.pow_le_pow_right (n := 256) (by omega) h1)
set_option maxHeartbeats 2000000 in
theorem rbytes_any {B p : Nat} {W0 w : World} {l : List Nat} (h : RdE B p W0 l w) (hl : l.length ≤ 100000) :
    Calls Try.prog 53 #[.pointer (some ⟨p, 0, none⟩)] w (BytPost B p W0 l) := by
  have ct := num_any 1 (by omega) h hl
  have hsm : Small l := by obtain ⟨A, c, z⟩ := h; exact z.by_.2
  have hv := getL1_lt hsm
  clear h
  obtain ⟨k, hk⟩ : ∃ k, getL (l.take 1) = k := ⟨_, rfl⟩
  have HK := Lib.hid hk
  have hvk : k < 256 := by omega
  have vk : IntKind.i64.wrap (k : Int) = (k : Int) := by rw [IntKind.wrap_i64]; omega
  go_enter Try.func53, Try.ntmps53
  go_wp2_with fail
  refine ct.mono ?_
  rintro e w1 (⟨hm, rfl, hr⟩ | ⟨hm, rfl, hr⟩)
  · rw [hk]
    have hd1 : (l.drop 1).length ≤ 100000 := by rw [List.length_drop]; omega
    have ct2 := take_any k hr hd1
    clear ct hk hr
    go_wp2_with fail
    refine ct2.mono ?_
    rintro e w2 (⟨hm2, A, c, rfl, hb, hc, hr⟩ | ⟨hm2, rfl, hr⟩)
    · obtain ⟨A1, c1, z⟩ := hr
      have hlm : ((l.drop 1).take k).length = k := by rw [List.length_take]; omega
      have hcl := clone_any A c ((l.drop 1).take k) B w2 (hb.below z.low) (Nat.le_trans z.bp (Nat.le_of_lt (Nat.lt_of_lt_of_le z.plt z.only.size))) (by rw [hlm]; omega)
      have hP : bytP l = some ((l.drop 1).take k, (l.drop 1).drop k) := by
        unfold bytP
        rw [HK.out, if_pos ⟨hm, hm2⟩]
      have hR : RdE B p W0 ((l.drop 1).drop k) w2 := ⟨A1, c1, z⟩
      have hgrow : W0.heap.size ≤ w2.heap.size := z.only.size
      have HX := Lib.hid (And.intro hP (And.intro hR hlm))
      rw [hlm] at hcl
      clear z hb hP hR ct2
      go_wp2_with fail
      refine hcl.mono ?_
      rintro e w3 ⟨A3, c3, rfl, o3, b3, s3⟩
      have fin : BytPost B p W0 l (.returned (.slice A3 ((l.drop 1).take k).length c3)) w3 := .inl ⟨_, _, HX.out.1, A3, c3, rfl, own_base hgrow o3, s3, HX.out.2.1.below b3⟩
      rw [HX.out.2.2] at fin ⊢
      have FIN := Lib.hid fin
      clear fin
      clear hcl o3 b3
      go_wp2
      go_ret
      exact FIN.out
    · have hP : bytP l = none := by
        unfold bytP
        rw [HK.out, if_neg (by omega)]
      exact ⟨rfl, .inr ⟨hP, rfl, hr.only⟩⟩
  · have hP : bytP l = none := by
      unfold bytP
      rw [if_neg (by omega)]
    exact ⟨rfl, .inr ⟨hP, rfl, hr.only⟩⟩
end Go.Proofs.Ythbaoljghofkoaa
