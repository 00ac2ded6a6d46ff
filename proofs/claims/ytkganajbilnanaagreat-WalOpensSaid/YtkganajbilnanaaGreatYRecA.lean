/- Records of the log as plain lists and numbers. Conditions: none; no program in sight. -/
import Derived.Test.YtkganajbilnanaaGreatYCrc
import Derived.Deep.DeepCutAuto
import Derived.Deep.MidRow
import Derived.Deep.WholeRow
set_option linter.unusedVariables false
set_option linter.unusedSimpArgs false
namespace Go.Proofs.YtkganajbilnanaaGreat
open NumMath
structure ChgP where
  page : Nat
  slot : Nat
  had : Bool
  has : Bool
  before : List Nat
  after : List Nat
structure TxP where
  txn : Nat
  last : Nat
  undo : Nat
  state : Nat
structure DirP where
  page : Nat
  first : Nat
structure RecP where
  kind : Nat
  txn : Nat
  prev : Nat
  next : Nat
  chg : ChgP
  txns : List TxP
  pages : List DirP
def ChgP.Fits (c : ChgP) : Prop := c.page < 4294967296 ∧ c.slot < 65536 ∧ Small c.before ∧ Small c.after
def TxP.Fits (x : TxP) : Prop := x.txn < 4294967296 ∧ x.last < 18446744073709551616 ∧ x.undo < 18446744073709551616 ∧ x.state < 256
def DirP.Fits (x : DirP) : Prop := x.page < 4294967296 ∧ x.first < 18446744073709551616
structure RecP.Fits (r : RecP) : Prop where
  kind : r.kind < 256
  txn : r.txn < 4294967296
  prev : r.prev < 18446744073709551616
  next : r.next < 18446744073709551616
  chg : r.chg.Fits
  txns : ∀ x ∈ r.txns, x.Fits
  pages : ∀ x ∈ r.pages, x.Fits
def chgs (k : Nat) : Bool := k == 2 || k == 3
def okC (r : RecP) : Bool :=
  decide (r.chg.before.length ≤ 64) && decide (r.chg.after.length ≤ 64) && (r.chg.had || decide (r.chg.before.length = 0)) && (r.chg.has || decide (r.chg.after.length = 0)) &&
  (chgs r.kind || (r.chg.page == 0 && r.chg.slot == 0 && !r.chg.had && !r.chg.has))
def badT (x : TxP) : Bool := decide (x.state < 1) || decide (3 < x.state)
def okR (r : RecP) : Bool :=
  decide (1 ≤ r.kind) && decide (r.kind ≤ 8) && decide (r.txns.length ≤ 64) && decide (r.pages.length ≤ 64) && (r.kind == 8 || decide (r.txns.length + r.pages.length = 0)) && okC r && !(r.txns.any badT)
def flagsN (c : ChgP) : Nat := (if c.had then 1 else 0) + (if c.has then 2 else 0)
def lenL (l : List Nat) : List Nat := putF 1 l.length ++ l
def chgL (c : ChgP) : List Nat := putF 4 c.page ++ putF 2 c.slot ++ putF 1 (flagsN c) ++ lenL c.before ++ lenL c.after
def txL (x : TxP) : List Nat := putF 4 x.txn ++ putF 8 x.last ++ putF 8 x.undo ++ putF 1 x.state
def dirL (x : DirP) : List Nat := putF 4 x.page ++ putF 8 x.first
def tabL (r : RecP) : List Nat := putF 1 r.txns.length ++ r.txns.flatMap txL ++ (putF 1 r.pages.length ++ r.pages.flatMap dirL)
def headB (r : RecP) : List Nat := putF 1 r.kind ++ putF 4 r.txn ++ putF 8 r.prev ++ putF 8 r.next
def bodyL (r : RecP) : List Nat := headB r ++ (if chgs r.kind = true then chgL r.chg else if r.kind = 8 then tabL r else [])
def sumB (l : List Nat) : Nat := CrcMath.sumFrom 0 l
def encL (r : RecP) : List Nat := putF 2 ((bodyL r).length + 6) ++ putF 4 (sumB (bodyL r)) ++ bodyL r
theorem sumB_lt {l : List Nat} (h : Small l) : sumB l < 4294967296 := CrcMath.sumFrom_lt _ (by omega) h
theorem lenL_length (l : List Nat) : (lenL l).length = 1 + l.length := by unfold lenL; rw [List.length_append, putF_length]
theorem chgL_length (c : ChgP) : (chgL c).length = 9 + c.before.length + c.after.length := by
  unfold chgL
  simp only [List.length_append, putF_length, lenL_length]
  omega
theorem txL_length (x : TxP) : (txL x).length = 21 := by unfold txL; simp only [List.length_append, putF_length]
theorem dirL_length (x : DirP) : (dirL x).length = 12 := by unfold dirL; simp only [List.length_append, putF_length]
theorem txLs_length (l : List TxP) : (l.flatMap txL).length = 21 * l.length := by
  induction l with
  | nil => rfl
  | cons x l ih => rw [List.flatMap_cons, List.length_append, txL_length, ih, List.length_cons]; omega
theorem dirLs_length (l : List DirP) : (l.flatMap dirL).length = 12 * l.length := by
  induction l with
  | nil => rfl
  | cons x l ih => rw [List.flatMap_cons, List.length_append, dirL_length, ih, List.length_cons]; omega
theorem headB_length (r : RecP) : (headB r).length = 21 := by unfold headB; simp only [List.length_append, putF_length]
theorem okR_lens {r : RecP} (h : okR r = true) : r.txns.length ≤ 64 ∧ r.pages.length ≤ 64 ∧ r.chg.before.length ≤ 64 ∧ r.chg.after.length ≤ 64 := by
  unfold okR okC at h
  simp only [Bool.and_eq_true, decide_eq_true_iff] at h
  omega
theorem bodyL_length {r : RecP} (h : okR r = true) : 21 ≤ (bodyL r).length ∧ (bodyL r).length ≤ 2200 := by
  obtain ⟨h1, h2, h3, h4⟩ := okR_lens h
  unfold bodyL
  rw [List.length_append, headB_length]
  split
  · rw [chgL_length]; omega
  · split
    · unfold tabL
      simp only [List.length_append, putF_length, txLs_length, dirLs_length]
      omega
    · simp
theorem small_put (n v : Nat) : Small (putF n v) := putF_small n v
theorem txLs_small (l : List TxP) : Small (l.flatMap txL) := fun x hx => by
  obtain ⟨y, _, hy⟩ := List.mem_flatMap.1 hx
  exact (small_append (small_append (small_append (small_put _ _) (small_put _ _)) (small_put _ _)) (small_put _ _)) x hy
theorem dirLs_small (l : List DirP) : Small (l.flatMap dirL) := fun x hx => by
  obtain ⟨y, _, hy⟩ := List.mem_flatMap.1 hx
  exact (small_append (small_put _ _) (small_put _ _)) x hy
theorem chgL_small {c : ChgP} (h : c.Fits) : Small (chgL c) := small_append (small_append (small_append (small_append (small_put _ _) (small_put _ _)) (small_put _ _)) (small_append (small_put _ _) h.2.2.1)) (small_append (small_put _ _) h.2.2.2)
theorem tabL_small (r : RecP) : Small (tabL r) := small_append (small_append (small_put _ _) (txLs_small _)) (small_append (small_put _ _) (dirLs_small _))
theorem bodyL_small {r : RecP} (h : r.Fits) : Small (bodyL r) := by
  unfold bodyL
  refine small_append (small_append (small_append (small_append (small_put _ _) (small_put _ _)) (small_put _ _)) (small_put _ _)) ?_
  split
  · exact chgL_small h.chg
  · split
    · exact tabL_small r
    · intro x hx; cases hx
theorem encL_small {r : RecP} (h : r.Fits) : Small (encL r) := small_append (small_append (small_put _ _) (small_put _ _)) (bodyL_small h)
theorem encL_length (r : RecP) : (encL r).length = (bodyL r).length + 6 := by
  unfold encL
  simp only [List.length_append, putF_length]
  omega
end Go.Proofs.YtkganajbilnanaaGreat
namespace Go.Proofs.YtkganajbilnanaaGreat
open Go.ChangeShapes Go.WideShapes Go.ChangeAt Go.RowKit
open NumMath
def TxsAt (w : World) (B : Nat) (A : Option Addr) (l : List TxP) : Prop :=
  ∀ j (h : j < l.length), ∃ b o, A = some ⟨b, o, none⟩ ∧ b < B ∧ w.cell? ⟨b, o + j * 4, none⟩ = some (.int .u32 (l[j].txn : Nat)) ∧ w.cell? ⟨b, o + j * 4 + 1, none⟩ = some (.int .u64 (l[j].last : Nat)) ∧ w.cell? ⟨b, o + j * 4 + 2, none⟩ = some (.int .u64 (l[j].undo : Nat)) ∧ w.cell? ⟨b, o + j * 4 + 3, none⟩ = some (.int .u8 (l[j].state : Nat))
theorem TxsAt.below {w w' : World} {B : Nat} {A : Option Addr} {l : List TxP} (h : TxsAt w B A l) (hb : Below B w w') : TxsAt w' B A l := fun j hj => by
  obtain ⟨b, o, e, h0, c0, c1, c2, c3⟩ := h j hj
  exact ⟨b, o, e, h0, (hb.cell (p := ⟨b, _, none⟩) h0).trans c0, (hb.cell (p := ⟨b, _, none⟩) h0).trans c1, (hb.cell (p := ⟨b, _, none⟩) h0).trans c2, (hb.cell (p := ⟨b, _, none⟩) h0).trans c3⟩
theorem TxsAt.more {w : World} {B B' : Nat} {A : Option Addr} {l : List TxP} (h : TxsAt w B A l) (hB : B ≤ B') : TxsAt w B' A l := fun j hj => by
  obtain ⟨b, o, e, h0, r⟩ := h j hj
  exact ⟨b, o, e, by omega, r⟩
def DirsAt (w : World) (B : Nat) (A : Option Addr) (l : List DirP) : Prop :=
  ∀ j (h : j < l.length), ∃ b o, A = some ⟨b, o, none⟩ ∧ b < B ∧ w.cell? ⟨b, o + j * 2, none⟩ = some (.int .u32 (l[j].page : Nat)) ∧ w.cell? ⟨b, o + j * 2 + 1, none⟩ = some (.int .u64 (l[j].first : Nat))
theorem DirsAt.below {w w' : World} {B : Nat} {A : Option Addr} {l : List DirP} (h : DirsAt w B A l) (hb : Below B w w') : DirsAt w' B A l := fun j hj => by
  obtain ⟨b, o, e, h0, c0, c1⟩ := h j hj
  exact ⟨b, o, e, h0, (hb.cell (p := ⟨b, _, none⟩) h0).trans c0, (hb.cell (p := ⟨b, _, none⟩) h0).trans c1⟩
theorem DirsAt.more {w : World} {B B' : Nat} {A : Option Addr} {l : List DirP} (h : DirsAt w B A l) (hB : B ≤ B') : DirsAt w B' A l := fun j hj => by
  obtain ⟨b, o, e, h0, r⟩ := h j hj
  exact ⟨b, o, e, by omega, r⟩
structure ChgM where
  A1 : Option Addr
  c1 : Nat
  A2 : Option Addr
  c2 : Nat
def chgV (c : ChgP) (m : ChgM) : Array Value := #[.int .u32 (c.page : Nat), .int .u16 (c.slot : Nat), .bool c.had, .bool c.has, .slice m.A1 c.before.length m.c1, .slice m.A2 c.after.length m.c2]
structure ChgAt (w : World) (B : Nat) (c : ChgP) (m : ChgM) : Prop where
  bef : Bytes w B m.A1 c.before
  aft : Bytes w B m.A2 c.after
  cap1 : c.before.length ≤ m.c1
  cap2 : c.after.length ≤ m.c2
  fits : c.Fits
section
variable {w w' : World} {B B' : Nat} {c : ChgP} {m : ChgM}
theorem ChgAt.below (h : ChgAt w B c m) (hb : Below B w w') : ChgAt w' B c m := ⟨h.bef.below hb, h.aft.below hb, h.cap1, h.cap2, h.fits⟩
theorem ChgAt.more (h : ChgAt w B c m) (hB : B ≤ B') : ChgAt w B' c m := ⟨h.bef.more hB, h.aft.more hB, h.cap1, h.cap2, h.fits⟩
end
structure RecMm where
  cm : ChgM
  A3 : Option Addr
  c3 : Nat
  A4 : Option Addr
  c4 : Nat
def recA (r : RecP) (m : RecMm) : Array Value := #[.int .u8 (r.kind : Nat), .int .u32 (r.txn : Nat), .int .u64 (r.prev : Nat), .int .u64 (r.next : Nat), .int .u32 (r.chg.page : Nat), .int .u16 (r.chg.slot : Nat), .bool r.chg.had, .bool r.chg.has, .slice m.cm.A1 r.chg.before.length m.cm.c1, .slice m.cm.A2 r.chg.after.length m.cm.c2, .slice m.A3 r.txns.length m.c3, .slice m.A4 r.pages.length m.c4]
structure RecAt (w : World) (B : Nat) (r : RecP) (m : RecMm) : Prop where
  chg : ChgAt w B r.chg m.cm
  txs : TxsAt w B m.A3 r.txns
  dirs : DirsAt w B m.A4 r.pages
  fits : r.Fits
section
variable {w w' : World} {B B' : Nat} {r : RecP} {m : RecMm}
theorem RecAt.below (h : RecAt w B r m) (hb : Below B w w') : RecAt w' B r m := ⟨h.chg.below hb, h.txs.below hb, h.dirs.below hb, h.fits⟩
theorem RecAt.more (h : RecAt w B r m) (hB : B ≤ B') : RecAt w B' r m := ⟨h.chg.more hB, h.txs.more hB, h.dirs.more hB, h.fits⟩
end
end Go.Proofs.YtkganajbilnanaaGreat
namespace Go.Proofs.YtkganajbilnanaaGreat
open Go.ChangeShapes Go.WideShapes Go.ChangeAt Go.RowKit
open NumMath
set_option maxRecDepth 20000
structure RecBox (w : World) (g : Nat) (r : RecP) (m : RecMm) : Prop where
  k0 : w.cell? ⟨g, 0, none⟩ = some (.int .u8 (r.kind : Nat))
  k1 : w.cell? ⟨g, 1, none⟩ = some (.int .u32 (r.txn : Nat))
  k2 : w.cell? ⟨g, 2, none⟩ = some (.int .u64 (r.prev : Nat))
  k3 : w.cell? ⟨g, 3, none⟩ = some (.int .u64 (r.next : Nat))
  k4 : w.cell? ⟨g, 4, none⟩ = some (.int .u32 (r.chg.page : Nat))
  k5 : w.cell? ⟨g, 5, none⟩ = some (.int .u16 (r.chg.slot : Nat))
  k6 : w.cell? ⟨g, 6, none⟩ = some (.bool r.chg.had)
  k7 : w.cell? ⟨g, 7, none⟩ = some (.bool r.chg.has)
  k8 : w.cell? ⟨g, 8, none⟩ = some (.slice m.cm.A1 r.chg.before.length m.cm.c1)
  k9 : w.cell? ⟨g, 9, none⟩ = some (.slice m.cm.A2 r.chg.after.length m.cm.c2)
  k10 : w.cell? ⟨g, 10, none⟩ = some (.slice m.A3 r.txns.length m.c3)
  k11 : w.cell? ⟨g, 11, none⟩ = some (.slice m.A4 r.pages.length m.c4)
theorem RecBox.of {w : World} {g : Nat} {r : RecP} {m : RecMm} (h : Blk w g 51 (recA r m)) : RecBox w g r m :=
  ⟨h.cell 0, h.cell 1, h.cell 2, h.cell 3, h.cell 4, h.cell 5, h.cell 6, h.cell 7, h.cell 8, h.cell 9, h.cell 10, h.cell 11⟩
theorem RecBox.new (w : World) (r : RecP) (m : RecMm) : RecBox (w.alloc (.cells (recA r m) 51)) w.heap.size r m := RecBox.of (Blk.new w _ _)
theorem below_alloc (w : World) (o : Obj) : Below w.heap.size w (w.alloc o) := (Below.refl _ _).alloc (Nat.le_refl _) o
theorem chgs_cases (k : Nat) : (k = 2 ∧ chgs k = true) ∨ (k ≠ 2 ∧ k = 3 ∧ chgs k = true) ∨ (k ≠ 2 ∧ k ≠ 3 ∧ chgs k = false) := by
  unfold chgs
  by_cases h2 : k = 2
  · exact .inl ⟨h2, by simp [h2]⟩
  · by_cases h3 : k = 3
    · exact .inr (.inl ⟨h2, h3, by simp [h3]⟩)
    · exact .inr (.inr ⟨h2, h3, by simp [h2, h3]⟩)
theorem changes_any (r : RecP) (m : RecMm) (w : World) :
    Calls Tryz.prog 109 #[.agg (recA r m)] w fun e w' => e = .returned (.bool (chgs r.kind)) ∧ Below w.heap.size w w' := by
  have kb := RecBox.new w r m
  have hb := below_alloc w (.cells (recA r m) 51)
  have hk := chgs_cases r.kind
  go_enter Tryz.func109, Tryz.ntmps109
  go_upto_region 1 with fail
  generalize World.alloc w _ = w1 at *
  have q0 := kb.k0
  clear kb
  have HB := Lib.hid hb
  clear hb
  rcases hk with ⟨h, hc⟩ | ⟨h, h', hc⟩ | ⟨h, h', hc⟩
  · have HC := Lib.hid hc
    rw [h] at q0
    clear hc h
    go_wp2
    go_ret
    exact ⟨by rw [HC.out]; rfl, HB.out⟩
  · have HC := Lib.hid hc
    rw [h'] at q0
    clear hc h h'
    go_wp2
    go_ret
    exact ⟨by rw [HC.out]; rfl, HB.out⟩
  · have HC := Lib.hid hc
    have t1 : ((r.kind : Int) == 2) = false := by rw [beq_eq_false_iff_ne]; omega
    have t2 : ((r.kind : Int) == 3) = false := by rw [beq_eq_false_iff_ne]; omega
    clear hc h h'
    go_wp2
    go_ret
    exact ⟨by rw [HC.out]; rfl, HB.out⟩
theorem flags_any (c : ChgP) (m : ChgM) (w : World) :
    Calls Tryz.prog 132 #[.agg (chgV c m)] w fun e w' => e = .returned (.int .u64 (flagsN c : Nat)) ∧ Below w.heap.size w w' := by
  have kb := Blk.new w 47 (chgV c m)
  have hb := below_alloc w (.cells (chgV c m) 47)
  have hf : flagsN c = (if c.had then 1 else 0) + (if c.has then 2 else 0) := rfl
  go_enter Tryz.func132, Tryz.ntmps132
  go_upto_region 1 with fail
  generalize World.alloc w _ = w1 at *
  have q2 : w1.cell? ⟨w.heap.size, 2, none⟩ = some (.bool c.had) := kb.cell 2
  have q3 : w1.cell? ⟨w.heap.size, 3, none⟩ = some (.bool c.has) := kb.cell 3
  have HB := Lib.hid hb
  have HF := Lib.hid hf
  clear hb kb hf
  cases hh : c.had <;> cases hs : c.has
  all_goals
    rw [hh] at q2
    rw [hs] at q3
    go_wp2
    go_ret
    exact ⟨by rw [HF.out, hh, hs]; rfl, HB.out⟩
end Go.Proofs.YtkganajbilnanaaGreat
namespace Go.Proofs.YtkganajbilnanaaGreat
open Go.RowKit
theorem wp_load_run {P : Program} {w : World} {o : Oper} {a : Act} {K : Act → World → Prop} {Q : Exit → Act → World → Prop} (t : TypeId) (x : Operand) (X v : Value) (ho : o.op = .load t x) (hx : a.eval x = X)
    (hr : (Instr.loadAt t X).run P w = .ok v w) (h : K (a.put o.dst v) w) : o.wp P a w K Q := by
  unfold Oper.wp execOp
  simp only [ho, hx, Sem.run_bind, hr, Result.andThen_ok]
  exact h
theorem wp_store_run {P : Program} {w w' : World} {o : Oper} {a : Act} {K : Act → World → Prop} {Q : Exit → Act → World → Prop} (t : TypeId) (x y : Operand) (X Y : Value) (ho : o.op = .store t x y) (hx : a.eval x = X) (hy : a.eval y = Y)
    (hr : (Instr.storeAt t X Y).run P w = .ok () w') (h : K (a.put o.dst undef) w') : o.wp P a w K Q := by
  unfold Oper.wp execOp
  simp only [ho, hx, hy, Sem.run_bind, hr, Result.andThen_ok]
  exact h
theorem wpList_store_run {P : Program} {w w' : World} {ops : Array Oper} {rest : List Oper} {o : Oper} {a : Act} {Q : Exit → Act → World → Prop} (hgd : o.guard = none) (t : TypeId) (x y : Operand) (X Y : Value) (ho : o.op = .store t x y) (hx : a.eval x = X) (hy : a.eval y = Y)
    (hr : (Instr.storeAt t X Y).run P w = .ok () w') (h : wpList P ops Q rest (a.put o.dst undef) w') : wpList P ops Q (o :: rest) a w :=
  wpList_plain hgd fun _ hK => wp_store_run t x y X Y ho hx hy hr (hK _ _ h)
theorem wpList_load_run {P : Program} {w : World} {ops : Array Oper} {rest : List Oper} {o : Oper} {a : Act} {Q : Exit → Act → World → Prop} (hgd : o.guard = none) (t : TypeId) (x : Operand) (X v : Value) (ho : o.op = .load t x) (hx : a.eval x = X)
    (hr : (Instr.loadAt t X).run P w = .ok v w) (h : wpList P ops Q rest (a.put o.dst v) w) : wpList P ops Q (o :: rest) a w :=
  wpList_plain hgd fun _ hK => wp_load_run t x X v ho hx hr (hK _ _ h)
theorem run_load_blk {P : Program} {w : World} {g : Nat} {t : TypeId} {cs : Array Value} (h : Blk w g t cs) (o : Nat) (ty : TypeId) (sub : List Value) (d : TypeDesc) (hs : ∀ j v, sub[j]? = some v → cs[o + j]? = some v)
    (hu : P.underlying ty = some d) (hd : d.isRow = true) (hi : (P.info? ty).map (·.size) = some sub.length) :
    (Instr.loadAt ty (.pointer (some ⟨g, o, none⟩))).run P w = .ok (.agg sub.toArray) w :=
  run_loadAt_mid w g o ty sub d (fun j v hv => by rw [h.cell]; exact hs j v hv) hu hd hi
theorem run_load_cells {P : Program} {w : World} {g o : Nat} (ty : TypeId) (sub : List Value) (d : TypeDesc) (hs : ∀ j v, sub[j]? = some v → w.cell? ⟨g, o + j, none⟩ = some v)
    (hu : P.underlying ty = some d) (hd : d.isRow = true) (hi : (P.info? ty).map (·.size) = some sub.length) :
    (Instr.loadAt ty (.pointer (some ⟨g, o, none⟩))).run P w = .ok (.agg sub.toArray) w :=
  run_loadAt_mid w g o ty sub d hs hu hd hi
end Go.Proofs.YtkganajbilnanaaGreat
namespace Go.Proofs.YtkganajbilnanaaGreat
open Go.ChangeShapes Go.WideShapes Go.ChangeAt Go.RowKit
open NumMath
set_option maxRecDepth 20000
theorem size_rec : (Tryz.prog.info? 51).map (·.size) = some 12 := by kernel_rfl
theorem size_chg : (Tryz.prog.info? 47).map (·.size) = some 6 := by kernel_rfl
theorem load_rec {w : World} {g : Nat} {r : RecP} {m : RecMm} (h : Blk w g 51 (recA r m)) : (Instr.loadAt 51 (.pointer (some ⟨g, 0, none⟩))).run Tryz.prog w = .ok (.agg (recA r m)) w :=
  run_load_blk h 0 51 (recA r m).toList _ (fun j v hv => by rw [Nat.zero_add]; simpa using hv) Tryz.underlying51 rfl size_rec
theorem load_chg {w : World} {g : Nat} {r : RecP} {m : RecMm} (h : Blk w g 51 (recA r m)) : (Instr.loadAt 47 (.pointer (some ⟨g, 4, none⟩))).run Tryz.prog w = .ok (.agg (chgV r.chg m.cm)) w :=
  run_load_blk h 4 47 (chgV r.chg m.cm).toList _ (fun j v hv => by
    match j with
    | 0 => exact hv
    | 1 => exact hv
    | 2 => exact hv
    | 3 => exact hv
    | 4 => exact hv
    | 5 => exact hv
    | j + 6 => cases hv) Tryz.underlying47 rfl size_chg
theorem store_chg (w : World) (c : ChgP) (m : ChgM) : (Instr.storeAt 47 (.pointer (some ⟨w.heap.size, 0, none⟩)) (.agg (chgV c m))).run Tryz.prog (w.alloc (.cells #[.int .u32 0, .int .u16 0, .bool false, .bool false, .slice none 0 0, .slice none 0 0] 47)) = .ok () (w.alloc (.cells (chgV c m) 47)) :=
  run_storeAt_new w 47 _ (chgV c m) size_chg rfl (by simp [chgV, Value.oneCell'])
structure ChgBox (w : World) (g : Nat) (c : ChgP) (m : ChgM) : Prop where
  k0 : w.cell? ⟨g, 0, none⟩ = some (.int .u32 (c.page : Nat))
  k1 : w.cell? ⟨g, 1, none⟩ = some (.int .u16 (c.slot : Nat))
  k2 : w.cell? ⟨g, 2, none⟩ = some (.bool c.had)
  k3 : w.cell? ⟨g, 3, none⟩ = some (.bool c.has)
  k4 : w.cell? ⟨g, 4, none⟩ = some (.slice m.A1 c.before.length m.c1)
  k5 : w.cell? ⟨g, 5, none⟩ = some (.slice m.A2 c.after.length m.c2)
theorem ChgBox.of {w : World} {g : Nat} {c : ChgP} {m : ChgM} (h : Blk w g 47 (chgV c m)) : ChgBox w g c m := ⟨h.cell 0, h.cell 1, h.cell 2, h.cell 3, h.cell 4, h.cell 5⟩
def okC' (nb na : Nat) (had has ch : Bool) (pg sl : Nat) : Bool :=
  decide (nb ≤ 64) && decide (na ≤ 64) && (had || decide (nb = 0)) && (has || decide (na = 0)) && (ch || (pg == 0 && sl == 0 && !had && !has))
theorem okC_eq (r : RecP) : okC r = okC' r.chg.before.length r.chg.after.length r.chg.had r.chg.has (chgs r.kind) r.chg.page r.chg.slot := rfl
set_option maxHeartbeats 4000000 in
theorem mayChange_any (r : RecP) (m : RecMm) (w : World) :
    Calls Tryz.prog 130 #[.agg (recA r m)] w fun e w' => e = .returned (.bool (okC r)) ∧ Below w.heap.size w w' := by
  have kb := Blk.new w 51 (recA r m)
  have hb := below_alloc w (.cells (recA r m) 51)
  have hO := okC_eq r
  go_enter Tryz.func130, Tryz.ntmps130
  go_upto_region 1 with fail
  generalize World.alloc w _ = w1 at *
  have ld := load_chg kb
  have st := store_chg w1 r.chg m.cm
  have kb2 := kb.alloc (.cells (chgV r.chg m.cm) 47)
  have kc := ChgBox.of (Blk.new w1 47 (chgV r.chg m.cm))
  have hb2 := hb.alloc hb.size (.cells (chgV r.chg m.cm) 47)
  have ld2 := load_rec kb2
  have cc := changes_any r m (w1.alloc (.cells (chgV r.chg m.cm) 47))
  have HB := Lib.hid hb2
  have HO := Lib.hid hO
  have hlt0 := (Blk.new w1 47 (chgV r.chg m.cm)).lt
  clear kb hb kb2 hb2 hO
  go_upto_region 2 with (first | (refine wpList_load_run rfl 47 (.tmp 4) _ _ rfl rfl ld ?_; clear ld) | (refine wpList_store_run rfl 47 (.tmp 3) (.tmp 5) _ _ rfl rfl rfl st ?_; clear st))
  generalize World.alloc w1 _ = w2 at *
  obtain ⟨q0, q1, q2, q3, q4, q5⟩ := kc
  have FIN : ∀ w', Below w2.heap.size w2 w' → Below w.heap.size w w' := fun w' h => HB.out.trans (h.mono HB.out.size)
  have HFIN := Lib.hid FIN
  have hlt : w1.heap.size < w2.heap.size := hlt0
  have hcc : Hid (∀ W, Below w2.heap.size w2 W → ∀ o, W.cell? ⟨w1.heap.size, o, none⟩ = w2.cell? ⟨w1.heap.size, o, none⟩) := Lib.hid fun W h o => h.cell (p := ⟨w1.heap.size, o, none⟩) hlt
  clear FIN hlt hlt0
  generalize hnb : r.chg.before.length = nb at *
  generalize hna : r.chg.after.length = na at *
  generalize hhad : r.chg.had = had at *
  generalize hhas : r.chg.has = has at *
  generalize hpg : r.chg.page = pg at *
  generalize hsl : r.chg.slot = sl at *
  clear hnb hna hhad hhas hpg hsl
  rcases Nat.lt_or_ge 64 nb with z | z
  · have t1 : decide ((64 : Int) < (nb : Int)) = true := by rw [decide_eq_true_iff]; omega
    have HE : Hid (okC r = false) := Lib.hid (by rw [HO.out]; unfold okC'; simp; omega)
    clear z ld2 cc
    go_wp2
    go_ret
    exact ⟨by rw [HE.out]; rfl, HB.out⟩
  have t1 : decide ((64 : Int) < (nb : Int)) = false := by rw [decide_eq_false_iff_not]; omega
  rcases Nat.lt_or_ge 64 na with z2 | z2
  · have t2 : decide ((64 : Int) < (na : Int)) = true := by rw [decide_eq_true_iff]; omega
    have HE : Hid (okC r = false) := Lib.hid (by rw [HO.out]; unfold okC'; simp; omega)
    clear z z2 ld2 cc
    go_wp2
    go_ret
    exact ⟨by rw [HE.out]; rfl, HB.out⟩
  have t2 : decide ((64 : Int) < (na : Int)) = false := by rw [decide_eq_false_iff_not]; omega
  by_cases b1 : had = false ∧ 0 < nb
  · obtain ⟨rfl, b2⟩ := b1
    have HE : Hid (okC r = false) := Lib.hid (by rw [HO.out]; unfold okC'; simp; omega)
    clear z z2 ld2 cc
    go_wp2
    go_ret
    exact ⟨by rw [HE.out]; rfl, HB.out⟩
  by_cases b3 : has = false ∧ 0 < na
  · obtain ⟨rfl, b4⟩ := b3
    have HE : Hid (okC r = false) := Lib.hid (by rw [HO.out]; unfold okC'; simp; omega)
    have hor : had = true ∨ (had = false ∧ nb = 0) := by cases had <;> simp_all
    clear z z2 ld2 cc b1
    rcases hor with rfl | ⟨rfl, rfl⟩
    all_goals
      go_wp2
      go_ret
      exact ⟨by rw [HE.out]; rfl, HB.out⟩
  have hor : had = true ∨ (had = false ∧ nb = 0) := by cases had <;> simp_all
  have hor2 : has = true ∨ (has = false ∧ na = 0) := by cases has <;> simp_all
  have HE : Hid (okC r = (chgs r.kind || (pg == 0 && sl == 0 && !had && !has))) := Lib.hid (by
    rw [HO.out]
    unfold okC'
    have e1 : decide (nb ≤ 64) = true := decide_eq_true z
    have e2 : decide (na ≤ 64) = true := decide_eq_true z2
    rw [e1, e2]
    rcases hor with rfl | ⟨rfl, rfl⟩ <;> rcases hor2 with rfl | ⟨rfl, rfl⟩ <;> simp)
  clear z z2 b1 b3
  rcases hor with rfl | ⟨rfl, rfl⟩ <;> rcases hor2 with rfl | ⟨rfl, rfl⟩
  all_goals
    generalize chgs r.kind = ch at *
    cases ch
    · by_cases p0 : pg = 0
      · subst p0
        by_cases s0 : sl = 0
        · subst s0
          go_wp2_with (first | (refine wpList_load_run rfl 51 (.tmp 1) _ _ rfl rfl ld2 ?_; clear ld2))
          refine cc.mono ?_
          rintro e w3 ⟨rfl, b3⟩
          clear cc
          have r0 := (hcc.out w3 b3 0).trans q0
          have r1 := (hcc.out w3 b3 1).trans q1
          have r2 := (hcc.out w3 b3 2).trans q2
          have r3 := (hcc.out w3 b3 3).trans q3
          have B3 := Lib.hid (HFIN.out _ b3)
          clear q0 q1 q2 q3 q4 q5 b3
          go_wp2
          go_ret
          exact ⟨by rw [HE.out]; rfl, B3.out⟩
        · have y1 : ((sl : Int) == 0) = false := by rw [beq_eq_false_iff_ne]; omega
          have HE2 : Hid (okC r = false) := Lib.hid (by rw [HE.out]; simp [s0])
          clear s0
          go_wp2_with (first | (refine wpList_load_run rfl 51 (.tmp 1) _ _ rfl rfl ld2 ?_; clear ld2))
          refine cc.mono ?_
          rintro e w3 ⟨rfl, b3⟩
          clear cc
          have r0 := (hcc.out w3 b3 0).trans q0
          have r1 := (hcc.out w3 b3 1).trans q1
          have r2 := (hcc.out w3 b3 2).trans q2
          have r3 := (hcc.out w3 b3 3).trans q3
          have B3 := Lib.hid (HFIN.out _ b3)
          clear q0 q1 q2 q3 q4 q5 b3
          go_wp2
          go_ret
          exact ⟨by rw [HE2.out]; rfl, B3.out⟩
      · have y1 : ((pg : Int) == 0) = false := by rw [beq_eq_false_iff_ne]; omega
        have HE2 : Hid (okC r = false) := Lib.hid (by rw [HE.out]; simp [p0])
        clear p0
        go_wp2_with (first | (refine wpList_load_run rfl 51 (.tmp 1) _ _ rfl rfl ld2 ?_; clear ld2))
        refine cc.mono ?_
        rintro e w3 ⟨rfl, b3⟩
        clear cc
        have r0 := (hcc.out w3 b3 0).trans q0
        have r1 := (hcc.out w3 b3 1).trans q1
        have r2 := (hcc.out w3 b3 2).trans q2
        have r3 := (hcc.out w3 b3 3).trans q3
        have B3 := Lib.hid (HFIN.out _ b3)
        clear q0 q1 q2 q3 q4 q5 b3
        go_wp2
        go_ret
        exact ⟨by rw [HE2.out]; rfl, B3.out⟩
    · have HE2 : Hid (okC r = true) := Lib.hid (by rw [HE.out]; rfl)
      go_wp2_with (first | (refine wpList_load_run rfl 51 (.tmp 1) _ _ rfl rfl ld2 ?_; clear ld2))
      refine cc.mono ?_
      rintro e w3 ⟨rfl, b3⟩
      clear cc
      have r0 := (hcc.out w3 b3 0).trans q0
      have r1 := (hcc.out w3 b3 1).trans q1
      have r2 := (hcc.out w3 b3 2).trans q2
      have r3 := (hcc.out w3 b3 3).trans q3
      have B3 := Lib.hid (HFIN.out _ b3)
      clear q0 q1 q2 q3 q4 q5 b3
      go_wp2
      go_ret
      exact ⟨by rw [HE2.out]; rfl, B3.out⟩
def txV (x : TxP) : Array Value := #[.int .u32 (x.txn : Nat), .int .u64 (x.last : Nat), .int .u64 (x.undo : Nat), .int .u8 (x.state : Nat)]
theorem wrong_any (x : TxP) (w : World) :
    Calls Tryz.prog 129 #[.agg (txV x)] w fun e w' => e = .returned (.bool (badT x)) ∧ Below w.heap.size w w' := by
  have kb := Blk.new w 145 (txV x)
  have HB := Lib.hid (below_alloc w (.cells (txV x) 145))
  have hE : badT x = (decide (x.state < 1) || decide (3 < x.state)) := rfl
  go_enter Tryz.func129, Tryz.ntmps129
  go_upto_region 1 with fail
  generalize World.alloc w _ = w1 at *
  have q3 : w1.cell? ⟨w.heap.size, 3, none⟩ = some (.int .u8 (x.state : Nat)) := kb.cell 3
  clear kb
  rcases Nat.lt_or_ge x.state 1 with z | z
  · have t1 : decide ((x.state : Int) < 1) = true := by rw [decide_eq_true_iff]; omega
    have HE : Hid (badT x = true) := Lib.hid (by rw [hE, decide_eq_true z]; rfl)
    clear z hE
    go_wp2
    go_ret
    exact ⟨by rw [HE.out]; rfl, HB.out⟩
  · have t1 : decide ((x.state : Int) < 1) = false := by rw [decide_eq_false_iff_not]; omega
    rcases Nat.lt_or_ge 3 x.state with z2 | z2
    · have t2 : decide ((3 : Int) < (x.state : Int)) = true := by rw [decide_eq_true_iff]; omega
      have HE : Hid (badT x = true) := Lib.hid (by rw [hE, decide_eq_true z2, Bool.or_true])
      clear z z2 hE
      go_wp2
      go_ret
      exact ⟨by rw [HE.out]; rfl, HB.out⟩
    · have t2 : decide ((3 : Int) < (x.state : Int)) = false := by rw [decide_eq_false_iff_not]; omega
      have HE : Hid (badT x = false) := Lib.hid (by rw [hE, decide_eq_false (by omega), decide_eq_false (by omega)]; rfl)
      clear z z2 hE
      go_wp2
      go_ret
      exact ⟨by rw [HE.out]; rfl, HB.out⟩
theorem any_of (l : List TxP) (q : Nat) (hq : q < l.length) (h : badT l[q] = true) : l.any badT = true := by
  rw [List.any_eq_true]
  exact ⟨l[q], List.getElem_mem hq, h⟩
theorem any_none (l : List TxP) (h : ∀ j (hj : j < l.length), badT l[j] = false) : l.any badT = false := by
  rw [List.any_eq_false]
  intro x hx
  obtain ⟨j, hj, rfl⟩ := List.mem_iff_getElem.1 hx
  simp [h j hj]
set_option maxHeartbeats 2000000 in
theorem txidx_any (A : Option Addr) (c : Nat) (l : List TxP) (B : Nat) (w : World) (h : TxsAt w B A l) (hB : B ≤ w.heap.size) (hn : l.length ≤ 100000) :
    Calls Tryz.prog 139 #[.slice A l.length c, .func (.func 129) #[] #[]] w fun e w' => (∃ i : Int, e = .returned (.int .i64 i) ∧ decide (0 ≤ i) = l.any badT) ∧ Below w.heap.size w w' := by
  go_enter Tryz.func139, Tryz.ntmps139
  go_wp2_with fail
  go_loopw [8, 5] (fun i j wr => ∃ q : Nat, q ≤ l.length ∧ i = .int .i64 q ∧ Hid (∀ j (hj : j < l.length), j < q → badT l[j] = false) ∧ Below w.heap.size w wr) (fun i _ _ => l.length - (intOf i).toNat)
  case atStart => exact ⟨0, Nat.zero_le _, rfl, fun j hj h => absurd h (by omega), Below.refl _ _⟩
  case round =>
    obtain ⟨q, hq, rfl, H, hb⟩ := hrel
    rcases Nat.lt_or_ge q l.length with hlt | hge
    · have e1 : decide ((q : Int) < (l.length : Int)) = true := by rw [decide_eq_true_iff]; omega
      have e2 : (0 : Int) ≤ (q : Int) := by omega
      have e3 : (q : Int) < (l.length : Int) := by omega
      obtain ⟨b, o, rfl, hb1, x0, x1, x2, x3⟩ := (h.below (hb.mono hB)) q hlt
      have hsz := hb.size
      have hm := fun W => wrong_any l[q] W
      have HY := Lib.hid (any_of l q hlt)
      have HN : Hid (badT l[q] = false → ∀ j (hj : j < l.length), j < q + 1 → badT l[j] = false) := Lib.hid fun hmm j hj hjq => by
        rcases Nat.lt_or_ge j q with z | z
        · exact H.out j hj z
        · obtain rfl : j = q := by omega
          exact hmm
      clear h H
      generalize l[q] = x at *
      have ld : (Instr.loadAt 145 (.pointer (some ⟨b, o + q * 4, none⟩))).run Tryz.prog wr = .ok (.agg (txV x)) wr :=
        run_load_cells 145 (txV x).toList _ (fun j v hv => by
          match j with
          | 0 => rw [Nat.add_zero]; exact x0.trans hv
          | 1 => exact x1.trans hv
          | 2 => exact x2.trans hv
          | 3 => exact x3.trans hv
          | j + 4 => cases hv) Tryz.underlying145 rfl (by kernel_rfl)
      clear x0 x1 x2 x3
      cases hmm : badT x with
      | false =>
        have HN2 := Lib.hid (HN.out hmm)
        have hm2 := hm wr
        rw [hmm] at hm2
        clear HY HN hmm hm
        go_wp2_with (refine wpList_load_run rfl 145 (.tmp 14) _ _ rfl rfl ld ?_; clear ld)
        refine hm2.mono ?_
        rintro e w2 ⟨rfl, b2⟩
        have HB := Lib.hid (hb.trans (b2.mono hsz))
        clear hm2 b2 hb
        go_wp2
        go_roundw
        case rel => exact ⟨q + 1, by omega, by go_num, HN2.out, HB.out⟩
        case measure => simp [intOf]; omega
      | true =>
        have HY2 := Lib.hid (HY.out hmm)
        have hm2 := hm wr
        rw [hmm] at hm2
        clear HY HN hmm hm
        go_wp2_with (refine wpList_load_run rfl 145 (.tmp 14) _ _ rfl rfl ld ?_; clear ld)
        refine hm2.mono ?_
        rintro e w2 ⟨rfl, b2⟩
        have HB := Lib.hid (hb.trans (b2.mono hsz))
        clear hm2 b2 hb
        go_wp2
        go_ret
        exact ⟨⟨_, rfl, by rw [HY2.out, decide_eq_true e2]⟩, HB.out⟩
    · obtain rfl : q = l.length := by omega
      have e1 : decide ((l.length : Int) < (l.length : Int)) = false := by rw [decide_eq_false_iff_not]; omega
      have HE := Lib.hid (any_none l fun j hj => H.out j hj hj)
      clear h H
      go_wp2
      go_ret
      exact ⟨⟨_, rfl, by rw [HE.out]; rfl⟩, hb⟩
theorem txhas_any (A : Option Addr) (c : Nat) (l : List TxP) (B : Nat) (w : World) (h : TxsAt w B A l) (hB : B ≤ w.heap.size) (hn : l.length ≤ 100000) :
    Calls Tryz.prog 131 #[.slice A l.length c, .func (.func 129) #[] #[]] w fun e w' => e = .returned (.bool (l.any badT)) ∧ Below w.heap.size w w' := by
  have ci := txidx_any A c l B w h hB hn
  clear h
  go_enter Tryz.func131, Tryz.ntmps131
  go_wp2_with fail
  refine ci.mono ?_
  rintro e w2 ⟨⟨i, rfl, hi⟩, b2⟩
  have HI := Lib.hid hi
  clear ci hi
  go_wp2
  go_ret
  exact ⟨by rw [← HI.out]; rfl, b2⟩
end Go.Proofs.YtkganajbilnanaaGreat
