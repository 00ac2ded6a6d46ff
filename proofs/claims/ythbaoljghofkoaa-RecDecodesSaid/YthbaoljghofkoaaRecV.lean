/- Records of the log as values and in memory. Conditions: none. -/
import Derived.Test.YthbaoljghofkoaaRecM
import Derived.Test.YthbaoljghofkoaaBrows
import Derived.Test.YthbaoljghofkoaaSteps
namespace Go.Proofs.Ythbaoljghofkoaa
open Go.ChangeShapes Go.WideShapes Go.ChangeAt Go.RowKit
open NumMath
set_option linter.unusedVariables false
set_option linter.unusedSimpArgs false

/-- the slice at address A reads as these transactions, below block B -/
def TxsAt (w : World) (B : Nat) (A : Option Addr) (l : List TxP) : Prop :=
  ∀ j (h : j < l.length), ∃ b o, A = some ⟨b, o, none⟩ ∧ b < B ∧ w.cell? ⟨b, o + j * 4, none⟩ = some (.int .u32 (l[j].txn : Nat)) ∧ w.cell? ⟨b, o + j * 4 + 1, none⟩ = some (.int .u64 (l[j].last : Nat)) ∧ w.cell? ⟨b, o + j * 4 + 2, none⟩ = some (.int .u64 (l[j].undo : Nat)) ∧ w.cell? ⟨b, o + j * 4 + 3, none⟩ = some (.int .u8 (l[j].state : Nat))
theorem TxsAt.below {w w' : World} {B : Nat} {A : Option Addr} {l : List TxP} (h : TxsAt w B A l) (hb : Below B w w') : TxsAt w' B A l := fun j hj => by
  obtain ⟨b, o, e, h0, c0, c1, c2, c3⟩ := h j hj
  exact ⟨b, o, e, h0, (hb.cell (p := ⟨b, _, none⟩) h0).trans c0, (hb.cell (p := ⟨b, _, none⟩) h0).trans c1, (hb.cell (p := ⟨b, _, none⟩) h0).trans c2, (hb.cell (p := ⟨b, _, none⟩) h0).trans c3⟩
theorem TxsAt.more {w : World} {B B' : Nat} {A : Option Addr} {l : List TxP} (h : TxsAt w B A l) (hB : B ≤ B') : TxsAt w B' A l := fun j hj => by
  obtain ⟨b, o, e, h0, r⟩ := h j hj
  exact ⟨b, o, e, by omega, r⟩
def DirsAt (w : World) (B : Nat) (A : Option Addr) (l : List DirP) : Prop :=
  ∀ j (h : j < l.length), ∃ b o, A = some ⟨b, o, none⟩ ∧ b < B ∧ w.cell? ⟨b, o + j * 2, none⟩ = some (.int .u32 (l[j].page : Nat)) ∧ w.cell? ⟨b, o + j * 2 + 1, none⟩ = some (.int .u64 (l[j].first : Nat))
theorem DirsAt.below {w w' : World} {B : Nat} {A : Option Addr} {l : List DirP} (h : DirsAt w B A l) (hb : Below B w w') : DirsAt w' B A l := fun j hj => by
  obtain ⟨b, o, e, h0, c0, c1⟩ := h j hj
  exact ⟨b, o, e, h0, (hb.cell (p := ⟨b, _, none⟩) h0).trans c0, (hb.cell (p := ⟨b, _, none⟩) h0).trans c1⟩
theorem DirsAt.more {w : World} {B B' : Nat} {A : Option Addr} {l : List DirP} (h : DirsAt w B A l) (hB : B ≤ B') : DirsAt w B' A l := fun j hj => by
  obtain ⟨b, o, e, h0, r⟩ := h j hj
  exact ⟨b, o, e, by omega, r⟩
/-- where a change's bytes lie -/
structure ChgM where
  A1 : Option Addr
  c1 : Nat
  A2 : Option Addr
  c2 : Nat
def chgV (c : ChgP) (m : ChgM) : Array Value := #[.int .u32 (c.page : Nat), .int .u16 (c.slot : Nat), .bool c.had, .bool c.has, .slice m.A1 c.before.length m.c1, .slice m.A2 c.after.length m.c2]
structure ChgAt (w : World) (B : Nat) (c : ChgP) (m : ChgM) : Prop where
  bef : Bytes w B m.A1 c.before
  aft : Bytes w B m.A2 c.after
  cap1 : c.before.length ≤ m.c1
  cap2 : c.after.length ≤ m.c2
  fits : c.Fits
section
variable {w w' : World} {B B' : Nat} {c : ChgP} {m : ChgM}
theorem ChgAt.below (h : ChgAt w B c m) (hb : Below B w w') : ChgAt w' B c m := ⟨h.bef.below hb, h.aft.below hb, h.cap1, h.cap2, h.fits⟩
theorem ChgAt.more (h : ChgAt w B c m) (hB : B ≤ B') : ChgAt w B' c m := ⟨h.bef.more hB, h.aft.more hB, h.cap1, h.cap2, h.fits⟩
end
/-- where a record's rows lie -/
structure RecMm where
  cm : ChgM
  A3 : Option Addr
  c3 : Nat
  A4 : Option Addr
  c4 : Nat
def recA (r : RecP) (m : RecMm) : Array Value := #[.int .u8 (r.kind : Nat), .int .u32 (r.txn : Nat), .int .u64 (r.prev : Nat), .int .u64 (r.next : Nat), .int .u32 (r.chg.page : Nat), .int .u16 (r.chg.slot : Nat), .bool r.chg.had, .bool r.chg.has, .slice m.cm.A1 r.chg.before.length m.cm.c1, .slice m.cm.A2 r.chg.after.length m.cm.c2, .slice m.A3 r.txns.length m.c3, .slice m.A4 r.pages.length m.c4]
structure RecAt (w : World) (B : Nat) (r : RecP) (m : RecMm) : Prop where
  chg : ChgAt w B r.chg m.cm
  txs : TxsAt w B m.A3 r.txns
  dirs : DirsAt w B m.A4 r.pages
  fits : r.Fits
section
variable {w w' : World} {B B' : Nat} {r : RecP} {m : RecMm}
theorem RecAt.below (h : RecAt w B r m) (hb : Below B w w') : RecAt w' B r m := ⟨h.chg.below hb, h.txs.below hb, h.dirs.below hb, h.fits⟩
theorem RecAt.more (h : RecAt w B r m) (hB : B ≤ B') : RecAt w B' r m := ⟨h.chg.more hB, h.txs.more hB, h.dirs.more hB, h.fits⟩
end
end Go.Proofs.Ythbaoljghofkoaa
