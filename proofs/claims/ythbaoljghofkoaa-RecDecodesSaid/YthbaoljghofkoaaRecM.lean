/- Records of the log as plain lists and numbers. Conditions: none; no program in sight. -/
import Derived.Test.YthbaoljghofkoaaNum
import Derived.Test.YthbaoljghofkoaaFrames
import Derived.Test.YthbaoljghofkoaaCrcM
namespace Go.Proofs.Ythbaoljghofkoaa
open NumMath
set_option linter.unusedVariables false
set_option linter.unusedSimpArgs false

structure ChgP where
  page : Nat
  slot : Nat
  had : Bool
  has : Bool
  before : List Nat
  after : List Nat
structure TxP where
  txn : Nat
  last : Nat
  undo : Nat
  state : Nat
structure DirP where
  page : Nat
  first : Nat
structure RecP where
  kind : Nat
  txn : Nat
  prev : Nat
  next : Nat
  chg : ChgP
  txns : List TxP
  pages : List DirP
def ChgP.Fits (c : ChgP) : Prop := c.page < 4294967296 ∧ c.slot < 65536 ∧ Small c.before ∧ Small c.after
def TxP.Fits (x : TxP) : Prop := x.txn < 4294967296 ∧ x.last < 18446744073709551616 ∧ x.undo < 18446744073709551616 ∧ x.state < 256
def DirP.Fits (x : DirP) : Prop := x.page < 4294967296 ∧ x.first < 18446744073709551616
structure RecP.Fits (r : RecP) : Prop where
  kind : r.kind < 256
  txn : r.txn < 4294967296
  prev : r.prev < 18446744073709551616
  next : r.next < 18446744073709551616
  chg : r.chg.Fits
  txns : ∀ x ∈ r.txns, x.Fits
  pages : ∀ x ∈ r.pages, x.Fits
def chgs (k : Nat) : Bool := k == 2 || k == 3
def okC (r : RecP) : Bool :=
  decide (r.chg.before.length ≤ 64) && decide (r.chg.after.length ≤ 64) && (r.chg.had || decide (r.chg.before.length = 0)) && (r.chg.has || decide (r.chg.after.length = 0)) &&
  (chgs r.kind || (r.chg.page == 0 && r.chg.slot == 0 && !r.chg.had && !r.chg.has))
def badT (x : TxP) : Bool := decide (x.state < 1) || decide (3 < x.state)
def okR (r : RecP) : Bool :=
  decide (1 ≤ r.kind) && decide (r.kind ≤ 8) && decide (r.txns.length ≤ 64) && decide (r.pages.length ≤ 64) && (r.kind == 8 || decide (r.txns.length + r.pages.length = 0)) && okC r && !(r.txns.any badT)
def flagsN (c : ChgP) : Nat := (if c.had then 1 else 0) + (if c.has then 2 else 0)
def lenL (l : List Nat) : List Nat := putF 1 l.length ++ l
def chgL (c : ChgP) : List Nat := putF 4 c.page ++ putF 2 c.slot ++ putF 1 (flagsN c) ++ lenL c.before ++ lenL c.after
def txL (x : TxP) : List Nat := putF 4 x.txn ++ putF 8 x.last ++ putF 8 x.undo ++ putF 1 x.state
def dirL (x : DirP) : List Nat := putF 4 x.page ++ putF 8 x.first
def tabL (r : RecP) : List Nat := putF 1 r.txns.length ++ r.txns.flatMap txL ++ (putF 1 r.pages.length ++ r.pages.flatMap dirL)
def headB (r : RecP) : List Nat := putF 1 r.kind ++ putF 4 r.txn ++ putF 8 r.prev ++ putF 8 r.next
def bodyL (r : RecP) : List Nat := headB r ++ (if chgs r.kind = true then chgL r.chg else if r.kind = 8 then tabL r else [])
def sumB (l : List Nat) : Nat := CrcMath.sumFrom 0 l
def encL (r : RecP) : List Nat := putF 2 ((bodyL r).length + 6) ++ putF 4 (sumB (bodyL r)) ++ bodyL r
theorem sumB_lt {l : List Nat} (h : Small l) : sumB l < 4294967296 := CrcMath.sumFrom_lt _ (by omega) h
theorem lenL_length (l : List Nat) : (lenL l).length = 1 + l.length := by unfold lenL; rw [List.length_append, putF_length]
theorem chgL_length (c : ChgP) : (chgL c).length = 9 + c.before.length + c.after.length := by
  unfold chgL
  simp only [List.length_append, putF_length, lenL_length]
  omega
theorem txL_length (x : TxP) : (txL x).length = 21 := by unfold txL; simp only [List.length_append, putF_length]
theorem dirL_length (x : DirP) : (dirL x).length = 12 := by unfold dirL; simp only [List.length_append, putF_length]
theorem txLs_length (l : List TxP) : (l.flatMap txL).length = 21 * l.length := by
  induction l with
  | nil => rfl
  | cons x l ih => rw [List.flatMap_cons, List.length_append, txL_length, ih, List.length_cons]; omega
theorem dirLs_length (l : List DirP) : (l.flatMap dirL).length = 12 * l.length := by
  induction l with
  | nil => rfl
  | cons x l ih => rw [List.flatMap_cons, List.length_append, dirL_length, ih, List.length_cons]; omega
theorem headB_length (r : RecP) : (headB r).length = 21 := by unfold headB; simp only [List.length_append, putF_length]
theorem okR_lens {r : RecP} (h : okR r = true) : r.txns.length ≤ 64 ∧ r.pages.length ≤ 64 ∧ r.chg.before.length ≤ 64 ∧ r.chg.after.length ≤ 64 := by
  unfold okR okC at h
  simp only [Bool.and_eq_true, decide_eq_true_iff] at h
  omega
theorem bodyL_length {r : RecP} (h : okR r = true) : 21 ≤ (bodyL r).length ∧ (bodyL r).length ≤ 2200 := by
  obtain ⟨h1, h2, h3, h4⟩ := okR_lens h
  unfold bodyL
  rw [List.length_append, headB_length]
  split
  · rw [chgL_length]; omega
  · split
    · unfold tabL
      simp only [List.length_append, putF_length, txLs_length, dirLs_length]
      omega
    · simp
theorem small_put (n v : Nat) : Small (putF n v) := putF_small n v
theorem txLs_small (l : List TxP) : Small (l.flatMap txL) := fun x hx => by
  obtain ⟨y, _, hy⟩ := List.mem_flatMap.1 hx
  exact (small_append (small_append (small_append (small_put _ _) (small_put _ _)) (small_put _ _)) (small_put _ _)) x hy
theorem dirLs_small (l : List DirP) : Small (l.flatMap dirL) := fun x hx => by
  obtain ⟨y, _, hy⟩ := List.mem_flatMap.1 hx
  exact (small_append (small_put _ _) (small_put _ _)) x hy
theorem chgL_small {c : ChgP} (h : c.Fits) : Small (chgL c) := small_append (small_append (small_append (small_append (small_put _ _) (small_put _ _)) (small_put _ _)) (small_append (small_put _ _) h.2.2.1)) (small_append (small_put _ _) h.2.2.2)
theorem tabL_small (r : RecP) : Small (tabL r) := small_append (small_append (small_put _ _) (txLs_small _)) (small_append (small_put _ _) (dirLs_small _))
theorem bodyL_small {r : RecP} (h : r.Fits) : Small (bodyL r) := by
  unfold bodyL
  refine small_append (small_append (small_append (small_append (small_put _ _) (small_put _ _)) (small_put _ _)) (small_put _ _)) ?_
  split
  · exact chgL_small h.chg
  · split
    · exact tabL_small r
    · intro x hx; cases hx
theorem encL_small {r : RecP} (h : r.Fits) : Small (encL r) := small_append (small_append (small_put _ _) (small_put _ _)) (bodyL_small h)
theorem encL_length (r : RecP) : (encL r).length = (bodyL r).length + 6 := by
  unfold encL
  simp only [List.length_append, putF_length]
  omega
end Go.Proofs.Ythbaoljghofkoaa
