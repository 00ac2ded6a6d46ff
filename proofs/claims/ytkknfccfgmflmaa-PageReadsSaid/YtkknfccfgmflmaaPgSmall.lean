/- page: count, low, end, at, data, list, Number, LSN, Stamp, Bytes, Get. Conditions: the page lies there. -/
import Derived.Test.YtkknfccfgmflmaaPgPut
namespace Go.Proofs.Ytkknfccfgmflmaa
open Go.ChangeShapes Go.WideShapes Go.ChangeAt Go.RowKit
open NumMath
set_option linter.unusedVariables false
set_option linter.unusedSimpArgs false
set_option maxRecDepth 20000

def cnt (f : Nat → Nat) : Nat := rd f 12 2
def lowN (f : Nat → Nat) : Nat := rd f 14 2
def atN (f : Nat → Nat) (s : Nat) : Nat := rd f (16 + 4 * s) 2
def lenN (f : Nat → Nat) (s : Nat) : Nat := rd f (18 + 4 * s) 2
theorem rd2_lt {f : Nat → Nat} (h : ∀ i, f i < 256) (a : Nat) : rd f a 2 < 65536 := rd_lt h a 2
/-- a slot's entry in the list -/
def lst (f : Nat → Nat) (s a n : Nat) : Nat → Nat := wr (wr f (16 + 4 * s) 2 a) (18 + 4 * s) 2 n
section
variable {w : World} {gp : Nat} {f : Nat → Nat}
theorem count_any (h : PgAt w gp f) :
    Calls Try.prog 30 #[.pointer (some ⟨gp, 0, none⟩)] w fun e w' => e = .returned (.int .i64 (cnt f : Nat)) ∧ w = w' := by
  have hg := pget_any h 12 2 (by omega) (by omega) (by omega)
  go_enter Try.func30, Try.ntmps30
  go_wp2_with fail
  refine hg.mono ?_
  rintro e w1 ⟨rfl, rfl⟩
  go_wp2
  go_ret
  exact ⟨rfl, rfl⟩
theorem low_any (h : PgAt w gp f) :
    Calls Try.prog 35 #[.pointer (some ⟨gp, 0, none⟩)] w fun e w' => e = .returned (.int .i64 (lowN f : Nat)) ∧ w = w' := by
  have hg := pget_any h 14 2 (by omega) (by omega) (by omega)
  go_enter Try.func35, Try.ntmps35
  go_wp2_with fail
  refine hg.mono ?_
  rintro e w1 ⟨rfl, rfl⟩
  go_wp2
  go_ret
  exact ⟨rfl, rfl⟩
theorem end_any (c : Nat) (hc : c ≤ 100000) (w : World) :
    Calls Try.prog 33 #[.int .i64 c] w fun e w' => e = .returned (.int .i64 (16 + 4 * c : Nat)) ∧ w = w' := by
  go_enter Try.func33, Try.ntmps33
  go_wp2
  go_ret
  refine ⟨?_, rfl⟩
  congr 1
theorem at_in (h : PgAt w gp f) (s : Nat) (hs : s < cnt f) (hc : cnt f ≤ 40) :
    Calls Try.prog 54 #[.pointer (some ⟨gp, 0, none⟩), .int .i64 s] w fun e w' => e = .returned (.tuple #[.int .i64 (atN f s : Nat), .int .i64 (lenN f s : Nat)]) ∧ w = w' := by
  have c1 := count_any h
  have g1 := pget_any h (16 + 4 * s) 2 (by omega) (by omega) (by omega)
  have g2 := pget_any h (18 + 4 * s) 2 (by omega) (by omega) (by omega)
  rw [show rd f (16 + 4 * s) 2 = atN f s from rfl] at g1
  rw [show rd f (18 + 4 * s) 2 = lenN f s from rfl] at g2
  obtain ⟨q, hq⟩ : ∃ q, 16 + 4 * s = q := ⟨_, rfl⟩
  obtain ⟨q2, hq2⟩ : ∃ q2, 18 + 4 * s = q2 := ⟨_, rfl⟩
  rw [hq] at g1
  rw [hq2] at g2
  generalize atN f s = x at *
  generalize lenN f s = y at *
  generalize cnt f = c at *
  have t1 : decide ((s : Int) < 0) = false := by rw [decide_eq_false_iff_not]; omega
  have t2 : decide ((c : Int) ≤ (s : Int)) = false := by rw [decide_eq_false_iff_not]; omega
  have t3 : (16 : Int) + 4 * (s : Int) = (q : Int) := by omega
  have t4 : (q : Int) + 2 = (q2 : Int) := by omega
  clear hq hq2 h
  go_enter Try.func54, Try.ntmps54
  go_wp2_with fail
  refine c1.mono ?_
  rintro e w1 ⟨rfl, rfl⟩
  clear c1
  go_wp2_with fail
  refine g1.mono ?_
  rintro e w1 ⟨rfl, rfl⟩
  clear g1
  go_wp2_with fail
  refine g2.mono ?_
  rintro e w1 ⟨rfl, rfl⟩
  go_wp2
  go_ret2
  exact ⟨rfl, rfl⟩
theorem at_out (h : PgAt w gp f) (s : Int) (hs : ¬ (0 ≤ s ∧ s < (cnt f : Int))) :
    Calls Try.prog 54 #[.pointer (some ⟨gp, 0, none⟩), .int .i64 s] w fun e w' => e = .returned (.tuple #[.int .i64 0, .int .i64 0]) ∧ w = w' := by
  have c1 := count_any h
  generalize cnt f = c at *
  clear h
  by_cases h0 : s < 0
  · have t1 : decide (s < 0) = true := by rw [decide_eq_true_iff]; exact h0
    clear hs c1
    go_enter Try.func54, Try.ntmps54
    go_wp2
    go_ret2
    exact ⟨rfl, rfl⟩
  · have t1 : decide (s < 0) = false := by rw [decide_eq_false_iff_not]; exact h0
    have t2 : decide ((c : Int) ≤ s) = true := by rw [decide_eq_true_iff]; omega
    clear hs
    go_enter Try.func54, Try.ntmps54
    go_wp2_with fail
    refine c1.mono ?_
    rintro e w1 ⟨rfl, rfl⟩
    go_wp2
    go_ret2
    exact ⟨rfl, rfl⟩
/-- a piece of the page as a slice -/
def piece (gp a n : Nat) : Value := .slice (some ⟨gp, a, none⟩) n (448 - a)
theorem data_in (h : PgAt w gp f) (s : Nat) (hs : s < cnt f) (hc : cnt f ≤ 40) (ha : atN f s + lenN f s ≤ 448) (ha2 : atN f s < 448) :
    Calls Try.prog 31 #[.pointer (some ⟨gp, 0, none⟩), .int .i64 s] w fun e w' => e = .returned (piece gp (atN f s) (lenN f s)) ∧ w = w' := by
  have c1 := at_in h s hs hc
  unfold piece
  generalize atN f s = x at *
  generalize lenN f s = y at *
  have e1 : (0 : Int) ≤ (x : Int) := by omega
  have e2 : (x : Int) ≤ (x : Int) + (y : Int) := by omega
  have e3 : (x : Int) + (y : Int) ≤ 448 := by omega
  have e5 : (448 = x) = False := eq_false (by omega)
  clear h hs hc
  go_enter Try.func31, Try.ntmps31
  go_wp2_with fail
  refine c1.mono ?_
  rintro e w1 ⟨rfl, rfl⟩
  go_wp2
  go_ret
  refine ⟨?_, rfl⟩
  show Ending.returned (.slice _ (x + y - x) _) = _
  rw [Nat.add_sub_cancel_left]
theorem data_out (h : PgAt w gp f) (s : Int) (hs : ¬ (0 ≤ s ∧ s < (cnt f : Int))) :
    Calls Try.prog 31 #[.pointer (some ⟨gp, 0, none⟩), .int .i64 s] w fun e w' => e = .returned (piece gp 0 0) ∧ w = w' := by
  have c1 := at_out h s hs
  unfold piece
  clear h hs
  go_enter Try.func31, Try.ntmps31
  go_wp2_with fail
  refine c1.mono ?_
  rintro e w1 ⟨rfl, rfl⟩
  go_wp2
  go_ret
  exact ⟨rfl, rfl⟩
theorem list_any (h : PgAt w gp f) (s a n : Nat) (hs : s ≤ 100) (ha : a ≤ 100000) (hn : n ≤ 100000) :
    Calls Try.prog 38 #[.pointer (some ⟨gp, 0, none⟩), .int .i64 s, .int .i64 a, .int .i64 n] w fun e w' => e = .returned (.tuple #[]) ∧ PgPost gp (lst f s a n) w w' := by
  have c1 := pput_any h (16 + 4 * s) 2 a (by omega) (by omega) (by omega) (by omega)
  obtain ⟨q, hq⟩ : ∃ q, 16 + 4 * s = q := ⟨_, rfl⟩
  obtain ⟨q2, hq2'⟩ : ∃ q2, 18 + 4 * s = q2 := ⟨_, rfl⟩
  have t3 : (16 : Int) + 4 * (s : Int) = (q : Int) := by omega
  have t4 : (q : Int) + 2 = (q2 : Int) := by omega
  have hl : lst f s a n = wr (wr f q 2 a) q2 2 n := by
    unfold lst
    rw [hq, hq2']
  rw [hl]
  rw [hq] at c1
  have w1 : IntKind.u64.wrap (a : Int) = (a : Int) := by rw [IntKind.wrap_u64]; omega
  have w2 : IntKind.u64.wrap (n : Int) = (n : Int) := by rw [IntKind.wrap_u64]; omega
  have hq2 : q2 + 2 ≤ 448 := by omega
  clear hq hq2' hl h
  go_enter Try.func38, Try.ntmps38
  go_wp2_with fail
  refine c1.mono ?_
  rintro e w1 ⟨rfl, hp⟩
  clear c1
  have c2 := pput_any hp.1 q2 2 n (by omega) (by omega) (by omega) (by omega)
  go_wp2_with fail
  refine c2.mono ?_
  rintro e w2 ⟨rfl, hp2⟩
  have FIN := Lib.hid (hp.trans hp2)
  clear c2 hp hp2
  go_wp2
  go_end0
  exact ⟨rfl, FIN.out⟩
theorem number_any (h : PgAt w gp f) :
    Calls Try.prog 28 #[.pointer (some ⟨gp, 0, none⟩)] w fun e w' => e = .returned (.int .u32 (rd f 8 4 : Nat)) ∧ w = w' := by
  have hg := pget_any h 8 4 (by omega) (by omega) (by omega)
  have hlt : rd f 8 4 < 4294967296 := rd_lt h.small 8 4
  generalize rd f 8 4 = v at *
  have w1 : IntKind.u32.wrap (v : Int) = (v : Int) := by rw [IntKind.wrap_u32]; omega
  clear h
  go_enter Try.func28, Try.ntmps28
  go_wp2_with fail
  refine hg.mono ?_
  rintro e w1 ⟨rfl, rfl⟩
  go_wp2
  go_ret
  exact ⟨rfl, rfl⟩
theorem lsn_any (h : PgAt w gp f) :
    Calls Try.prog 24 #[.pointer (some ⟨gp, 0, none⟩)] w fun e w' => e = .returned (.int .u64 (rd f 0 8 : Nat)) ∧ w = w' := by
  have hg := get_any (some ⟨gp, 0, none⟩) 448 (cut f 0 8) w.heap.size w (h.bytes (by omega)) (by rw [cut_length]; omega) (by rw [cut_length]; omega)
  rw [cut_take (by omega), cut_length] at hg
  rw [show getL (cut f 0 8) = rd f 0 8 from rfl] at hg
  generalize rd f 0 8 = v at *
  clear h
  go_enter Try.func24, Try.ntmps24
  go_wp2_with fail
  refine hg.mono ?_
  rintro e w1 ⟨rfl, rfl⟩
  go_wp2
  go_ret
  exact ⟨rfl, rfl⟩
theorem stamp_any (h : PgAt w gp f) (v : Nat) (hv : v < 18446744073709551616) :
    Calls Try.prog 23 #[.pointer (some ⟨gp, 0, none⟩), .int .u64 v] w fun e w' => e = .returned (.tuple #[]) ∧ PgPost gp (wr f 0 8 v) w w' := by
  have c1 := pput_any h 0 8 v (by omega) (by omega) (by omega) hv
  clear h
  go_enter Try.func23, Try.ntmps23
  go_wp2_with fail
  refine c1.mono ?_
  rintro e w1 ⟨rfl, hp⟩
  go_wp2
  go_end0
  exact ⟨rfl, hp⟩
set_option maxHeartbeats 1000000 in
theorem bclone_any (A : Addr) (c : Nat) (l : List Nat) (B : Nat) (w : World) (h : Bytes w B (some A) l) (hB : B ≤ w.heap.size) (hl : l.length ≤ 1000000) :
    Calls Try.prog 40 #[.slice (some A) l.length c] w (RetBytes 5 l w) := by
  obtain ⟨i0, hi0, hz0, hz1, hz2⟩ := info_parts u8_info
  have hq := fun W => run_eql_slice_nil (P := Try.prog) W 24 5 (some A) l.length c Try.underlying24
  have h2 : Bytes (w.alloc (.cells #[] 5)) B (some A) l := h.alloc hB _
  have ho := own_empty w 5
  have hb0 : Below w.heap.size w (w.alloc (.cells #[] 5)) := (Below.refl _ _).alloc (Nat.le_refl _) _
  go_enter Try.func40, Try.ntmps40
  go_wp2_with (at_builtin; refine wpList_append_at2 rfl _ _ 24 24 rfl w.heap.size 5 i0 _ 1 Try.underlying24 Try.underlying24 hi0 hz0 hz1 hz2 rfl (.slice (some ⟨w.heap.size, 0, none⟩) 0 0) 0 [] rfl ho B (some A) l.length c (l.map byteV) rfl (by rw [List.length_map]) h2.1 (bytes_oneCell _) (by unfold maxLen; omega) (by omega) hb0.size ?_; intro A1 c1 w1 hown hg hat)
  go_ret
  refine ⟨A1, c1, ret_slice (by simp), ?_, below_own hb0 hg ho (Nat.le_refl _) hb0.size, h.2⟩
  simpa using hown
theorem bytes_any (h : PgAt w gp f) :
    Calls Try.prog 17 #[.pointer (some ⟨gp, 0, none⟩)] w (RetBytes 5 (cut f 0 448) w) := by
  have hg := bclone_any ⟨gp, 0, none⟩ 448 (cut f 0 448) w.heap.size w (h.bytes (by omega)) (Nat.le_refl _) (by rw [cut_length]; omega)
  rw [cut_length] at hg
  have hl := cut_length f 0 448
  have HL := Lib.hid hl
  clear h hl
  generalize cut f 0 448 = l at *
  go_enter Try.func17, Try.ntmps17
  go_wp2_with fail
  refine hg.mono ?_
  rintro e w1 ⟨A1, c1, rfl, o1, b1, s1⟩
  clear hg
  go_wp2
  go_ret
  exact ⟨A1, c1, rfl, o1, b1, s1⟩
/-- what Get tells -/
def GetPost (l : List Nat) (w : World) (e : Ending) (w' : World) : Prop := ∃ A c, e = .returned (.tuple #[.slice A l.length c, .bool (decide (0 < l.length))]) ∧ w'.ownsRow w.heap.size 5 1 (.slice A l.length c) l.length (l.map byteV) ∧ Below w.heap.size w w' ∧ Small l
theorem getd_any (h : PgAt w gp f) (s : Int) (a n : Nat) (hn : a + n ≤ 448) (hd : Calls Try.prog 31 #[.pointer (some ⟨gp, 0, none⟩), .int .i64 s] w fun e w' => e = .returned (piece gp a n) ∧ w = w') :
    Calls Try.prog 13 #[.pointer (some ⟨gp, 0, none⟩), .int .i64 s] w (GetPost (cut f a n) w) := by
  have hc := clone_any (some ⟨gp, a, none⟩) (448 - a) (cut f a n) w.heap.size w (h.bytes hn) (Nat.le_refl _) (by rw [cut_length]; omega)
  have hl := cut_length f a n
  rw [hl] at hc
  unfold piece at hd
  generalize cut f a n = l at *
  have HL := Lib.hid hl
  clear hl h
  go_enter Try.func13, Try.ntmps13
  go_wp2_with fail
  refine hd.mono ?_
  rintro e w1 ⟨rfl, rfl⟩
  clear hd
  go_wp2_with fail
  refine hc.mono ?_
  rintro e w1 ⟨A1, c1, rfl, o1, b1, s1⟩
  clear hc
  go_wp2
  go_ret2
  refine ⟨A1, c1, ?_, o1, b1, s1⟩
  show Ending.returned (.tuple #[.slice A1 l.length c1, .bool (decide (0 < n))]) = _
  rw [HL.out]
end
end Go.Proofs.Ytkknfccfgmflmaa
