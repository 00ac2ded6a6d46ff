/- wal: Flush. Conditions: the log lies there. -/
import Derived.Test.YtkganajbilnanaaWWalPA
import Derived.Test.YtkganajbilnanaaWStrip
namespace Go.Proofs.Ytkganajbilnanaa
open Go.ChangeShapes Go.WideShapes Go.ChangeAt Go.RowKit
open NumMath
set_option linter.unusedVariables false
set_option linter.unusedSimpArgs false
set_option maxRecDepth 20000

theorem wrapi (f : Nat) (h : f < 9223372036854775808) : IntKind.i64.wrap (f : Int) = (f : Int) := by rw [IntKind.wrap_i64]; omega
theorem wrapu (f : Nat) (h : f < 18446744073709551616) : IntKind.u64.wrap (f : Int) = (f : Int) := by rw [IntKind.wrap_u64]; omega
theorem wrap6 (f : Nat) (h : f < 9223372036854775808) : wrap64 (f : Int) = (f : Int) := by unfold wrap64; omega
theorem grow_grow {F : Nat → Prop} {w w1 w2 w3 : World} (h : w.heap.size ≤ w2.heap.size) (h3 : w1.heap.size ≤ w3.heap.size) : ∀ b, grow (grow F w w1) w2 w3 b → grow F w w3 b := fun b q => by
  rcases q with (q | q) | q
  · exact .inl q
  · exact .inr ⟨q.1, Nat.lt_of_lt_of_le q.2 h3⟩
  · exact .inr ⟨Nat.le_trans h q.1, q.2⟩
/-- a log whose numbers fit -/
structure LogP.ok (L : LogP) : Prop where
  strips : L.strips ≤ 700
  fits : L.h.Fits
  area : L.h.area < 2
  slot : L.slot ≤ 1
  len : L.stream.length ≤ L.strips * 127
  lasts : L.lasts ≤ L.stream.length
  base : L.h.base + L.stream.length < 18446744073709551616
  mono : ∀ (s t a b : Nat), s ≤ t → L.starts[s]? = some a → L.starts[t]? = some b → a ≤ b
  cnt : L.starts.length ≤ 100000
  inn : ∀ x ∈ L.starts, x ≤ L.stream.length
def atP (L : LogP) (lsn : Nat) : Nat × Bool :=
  if lsn < L.h.base then (0, false) else if L.h.base + L.stream.length ≤ lsn then (L.starts.length, false) else (cntP L.starts (lsn - L.h.base), decide (L.starts[cntP L.starts (lsn - L.h.base)]? = some (lsn - L.h.base)))
def kP (L : LogP) (lsn : Nat) : Nat := (atP L lsn).1 + if (atP L lsn).2 = true then 1 else 0
def toP (L : LogP) (lsn : Nat) : Nat := if kP L lsn = 0 then 0 else behindP L.starts L.stream.length (kP L lsn - 1)
/-- sectors written one behind the other -/
def wrN (D : DevP) (p : Nat) (ls : List (List Nat)) : Nat → DevP
  | 0 => D
  | k + 1 => ((wrN D p ls k).write 0 ((p + k : Nat) : Int) (ls[k]?.getD [])).2
def flushS (L : LogP) (t : Nat) : List (List Nat) := (layOf (L.stream.take t)).drop (L.lasts / 127)
def firstP (L : LogP) (area : Nat) : Nat := 2 + area * L.strips
def flushD (L : LogP) (D : DevP) (lsn : Nat) : DevP := if toP L lsn ≤ L.lasts then D else (wrN D (firstP L L.h.area + L.lasts / 127) (flushS L (toP L lsn)) (flushS L (toP L lsn)).length).sync 0
def flushL (L : LogP) (lsn : Nat) : LogP := if toP L lsn ≤ L.lasts then L else { L with lasts := toP L lsn }
theorem wrN_good {D : DevP} {N : Nat} (h : D.good N) (p : Nat) (ls : List (List Nat)) : ∀ k, (wrN D p ls k).good (N + k)
  | 0 => h
  | k + 1 => (wrN_good h p ls k).write 0 _ _
theorem behindP_le {L : LogP} (h : L.ok) (k : Nat) : behindP L.starts L.stream.length k ≤ L.stream.length := by
  unfold behindP
  rcases hq : L.starts[k + 1]? with _ | x
  · exact Nat.le_refl _
  · exact h.inn x (List.mem_of_getElem? hq)
theorem toP_le {L : LogP} (h : L.ok) (lsn : Nat) : toP L lsn ≤ L.stream.length := by
  unfold toP
  split
  · exact Nat.zero_le _
  · exact behindP_le h _
theorem atP_le {L : LogP} (lsn : Nat) : (atP L lsn).1 ≤ L.starts.length := by
  unfold atP
  split
  · exact Nat.zero_le _
  · split
    · exact Nat.le_refl _
    · exact List.countP_le_length
/-- at, of a log as it lies -/
theorem at_lg {L : LogP} {D : DevP} {w : World} {F G : Nat → Prop} {gl : Nat} {pd sv st : Value} (h : Lg L D w F G gl pd sv st) (hk : L.ok) (lsn : Nat) (hl : lsn < 18446744073709551616) :
    Calls Try.prog 44 #[.pointer (some ⟨gl, 0, none⟩), .int .u64 (lsn : Nat)] w fun e w' => e = .returned (.tuple #[.int .i64 ((atP L lsn).1 : Nat), .bool (atP L lsn).2]) ∧ Drew w w' := by
  obtain ⟨A, c, rfl, hc, hb⟩ := h.log.bytes
  obtain ⟨As, cs, rfl, hcs, hat⟩ := h.log.places
  have hs := hk.strips
  have hl2 := hk.len
  refine (at_any w.heap.size h.log.blk hat hk.mono hk.cnt hk.base (by omega) lsn hl).mono ?_
  rintro e w' ⟨⟨i, b, rfl, hor⟩, hd⟩
  refine ⟨?_, hd⟩
  have : atP L lsn = (i, b) := by
    unfold atP
    rcases hor with ⟨q1, q2, q3⟩ | ⟨q1, q2, q3, q4⟩ | ⟨q1, q2, q3, q4⟩
    · rw [if_pos q1, q2, q3]
    · rw [if_neg (by omega), if_pos q2, q3, q4]
    · rw [if_neg (by omega), if_neg (by omega), q3, q4]
  rw [this]
theorem behind_lg {L : LogP} {D : DevP} {w : World} {F G : Nat → Prop} {gl : Nat} {pd sv st : Value} (h : Lg L D w F G gl pd sv st) (k : Nat) (hk : k ≤ 1000000) :
    Calls Try.prog 67 #[.pointer (some ⟨gl, 0, none⟩), .int .i64 (k : Nat)] w fun e w' => e = .returned (.int .i64 (behindP L.starts L.stream.length k : Nat)) ∧ w = w' := by
  obtain ⟨A, c, rfl, hc, hb⟩ := h.log.bytes
  obtain ⟨As, cs, rfl, hcs, hat⟩ := h.log.places
  exact behind_any w.heap.size k h.log.blk hat hk
end Go.Proofs.Ytkganajbilnanaa
