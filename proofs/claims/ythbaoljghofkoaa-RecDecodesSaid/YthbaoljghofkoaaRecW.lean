/- rec: the writer: number, bytes, change, tables. Conditions: as stated. -/
import Derived.Test.YthbaoljghofkoaaRecZ
import Derived.Deep.RegionLaw
namespace Go.Proofs.Ythbaoljghofkoaa
open Go.ChangeShapes Go.WideShapes Go.ChangeAt Go.RowKit
open NumMath
set_option linter.unusedVariables false
set_option linter.unusedSimpArgs false
set_option maxRecDepth 20000

/-- A writer in block p that holds the bytes l; since W0 only blocks of S, and new ones, have turned. -/
structure Wr (base : Nat) (W0 : World) (S : Nat → Prop) (p : Nat) (l : List Nat) (w : World) (A : Option Addr) (c : Nat) : Prop where
  blk : Blk w p 54 #[.slice A l.length c]
  own : w.ownsRow base 5 1 (.slice A l.length c) l.length (l.map byteV)
  row : ∀ k, (Value.slice A l.length c).ownBlock = some k → S k ∨ W0.heap.size ≤ k
  only : Only S W0 w
  sp : S p
  bas : base ≤ W0.heap.size
  plt : p < W0.heap.size
  small : Small l
def WrE (base : Nat) (W0 : World) (S : Nat → Prop) (p : Nat) (l : List Nat) (w : World) : Prop := ∃ A c, Wr base W0 S p l w A c
theorem cell_of_blk {w : World} {p : Nat} {v : Value} {t : TypeId} (h : w.heap[p]? = some (.cells #[v] t (0, 0))) : w.cell? ⟨p, 0, none⟩ = some v := by simp [World.cell?, h]
theorem frozen_of_blk {w : World} {p : Nat} {cs : Array Value} {t : TypeId} (h : w.heap[p]? = some (.cells cs t (0, 0))) (i : Nat) : w.frozen? ⟨p, i, none⟩ = false := by simp [World.frozen?, h]
section
variable {base p : Nat} {W0 w w' w1 w2 : World} {S S' : Nat → Prop} {l news : List Nat} {A A2 : Option Addr} {c c2 m : Nat}
theorem Wr.pw (h : Wr base W0 S p l w A c) : p < w.heap.size := Nat.lt_of_lt_of_le h.plt h.only.size
theorem Wr.below (h : Wr base W0 S p l w A c) (hb : Below w.heap.size w w') : Wr base W0 S p l w' A c :=
  ⟨h.blk.below hb h.pw, kept_none (below_none hb) h.own, h.row, h.only.trans (Only.of_below hb (fun b => b = p)) fun b q => .inl (by rw [q]; exact h.sp), h.sp, h.bas, h.plt, h.small⟩
theorem Wr.rebase (h : Wr base W0 S p l w A c) (o : Obj) :
    Wr base (w.alloc o) (fun b => b = p ∨ (Value.slice A l.length c).ownBlock = some b) p l (w.alloc o) A c ∧ (∀ b, (b = p ∨ (Value.slice A l.length c).ownBlock = some b) → b < w.heap.size ∧ (S b ∨ W0.heap.size ≤ b)) := by
  have hb := (Below.refl w.heap.size w).alloc (Nat.le_refl _) o
  have h2 := h.below hb
  refine ⟨⟨h2.blk, h2.own, fun k hk => .inl (.inr hk), Only.refl _ _, .inl rfl, Nat.le_trans h.bas (Nat.le_trans h.only.size hb.size), Nat.lt_of_lt_of_le h.pw hb.size, h.small⟩, fun b hq => ?_⟩
  rcases hq with rfl | hq
  · exact ⟨h.pw, .inl h.sp⟩
  · exact ⟨(h.own.lt b hq).2, h.row b hq⟩
/-- back to the elder start -/
theorem Wr.back (h : Only S W0 w) (hb : Below w.heap.size w w1) (hs : ∀ b, S' b → S b ∨ W0.heap.size ≤ b) (hp : S p) (hba : base ≤ W0.heap.size) (hpl : p < W0.heap.size) (h2 : Wr base w1 S' p l w' A c) : Wr base W0 S p l w' A c := by
  have h01 : Only S W0 w1 := h.trans (Only.of_below hb (fun _ => False)) fun b q => q.elim
  refine ⟨h2.blk, h2.own, fun k hk => ?_, h01.trans h2.only fun b q => hs b q, hp, hba, hpl, h2.small⟩
  rcases h2.row k hk with q | q
  · exact hs k q
  · exact .inr (Nat.le_trans h01.size q)
theorem Wr.step (h : Wr base W0 S p l w A c) (hb1 : Below w.heap.size w w1) (hown1 : w1.ownsRow base 5 1 (.slice A l.length c) l.length (l.map byteV))
    (hown2 : w2.ownsRow base 5 1 (.slice A2 (l.length + m) c2) (l.length + m) (l.map byteV ++ news.map byteV)) (hg2 : w1.grownBy w2 (Value.slice A l.length c).ownBlock) (hat : (Value.slice A2 (l.length + m) c2).ownBlock = (Value.slice A l.length c).ownBlock ∨ (Value.slice A2 (l.length + m) c2).ownBlock = some w1.heap.size)
    (hbl2 : w2.heap[p]? = some (.cells #[.slice A l.length c] 54 (0, 0))) (hlen : news.length = m) (hsm : Small news) :
    Wr base W0 S p (l ++ news) (w2.setCell ⟨p, 0, none⟩ (.slice A2 (l.length + m) c2)) A2 c2 := by
  have e : (l ++ news).length = l.length + m := by rw [List.length_append, hlen]
  have o1 : Only S W0 w1 := h.only.trans (Only.of_below hb1 (fun _ => False)) fun b q => q.elim
  have o2 : Only S W0 w2 := o1.trans (Only.of_grown (S := fun b => S b ∨ W0.heap.size ≤ b) hg2 fun k hk => .inl (h.row k hk)) fun b q => q
  have o3 : Only S W0 (w2.setCell ⟨p, 0, none⟩ (.slice A2 (l.length + m) c2)) := o2.setCell (p := ⟨p, 0, none⟩) (.inl h.sp) _
  refine ⟨?_, ?_, fun k hk => ?_, o3, h.sp, h.bas, h.plt, small_append h.small hsm⟩
  · rw [e]
    have : Blk w2 p 54 #[.slice A l.length c] := hbl2
    exact this.set_ 0 _
  · rw [e, List.map_append]
    refine hown2.kept (row := some p) (((Only.refl (fun b => b = p) w2).setCell (p := ⟨p, 0, none⟩) (.inl rfl) _).grown (fun k hk => by rw [hk])) ((own_block (by decide) hown2 hbl2).imp id id)
  · rw [e] at hk
    rcases hat with q | q
    · rw [q] at hk; exact h.row k hk
    · rw [q] at hk
      injection hk with hk
      exact .inr (by rw [← hk]; exact o1.size)
end
set_option maxHeartbeats 2000000 in
theorem wnum_any (n m : Nat) (hn : n < 18446744073709551616) (h1 : 1 ≤ m) (h8 : m ≤ 8) {base : Nat} {W0 : World} {S : Nat → Prop} {p : Nat} {l : List Nat} {w : World} (h : WrE base W0 S p l w) (hl : l.length ≤ 100000) :
    Calls Try.prog 22 #[.pointer (some ⟨p, 0, none⟩), .int .u64 n, .int .i64 m] w fun e w' => e = .returned (.tuple #[]) ∧ WrE base W0 S p (l ++ putF m n) w' := by
  obtain ⟨A, c, h⟩ := h
  obtain ⟨i0, hi0, hz0, hz1, hz2⟩ := info_parts u8_info
  have hb := h.blk
  have hc := hb.cell 0
  have hpw := h.pw
  have hput := fun W => put_any n m W hn (by omega) (by omega)
  rw [show putB n (m : Int) = putF m n by unfold putB; rw [if_pos (by omega)]; rfl] at hput
  have hlen := putF_length m n
  have hsm := putF_small m n
  have hown := h.own
  have hd : Wr base W0 S p l w.drew A c := h.below (Below.refl _ _).drew
  have hbase : base ≤ w.heap.size := Nat.le_trans h.bas h.only.size
  have HD := Lib.hid hd
  clear h hd
  go_enter Try.func22, Try.ntmps22
  go_wp2_with fail
  replace hown : w.drew.ownsRow base 5 1 (.slice A l.length c) l.length (l.map byteV) := hown
  go_region_law
    (first
      | (go_simp; go_at_call 26; refine (hput _).mono ?_; intro e w1 hret; obtain ⟨A1, c1, rfl, hown1, hb1, hx1⟩ := hret.is; clear hret; have hbl1 : w1.heap[p]? = some (.cells #[.slice A l.length c] 54 (0, 0)) := (hb1.block p hpw).trans hb; have hc1 := cell_of_blk hbl1)
      | (refine step_append_at (by rfl) _ _ 25 25 (by rfl) base 5 i0 _ 1 Try.underlying25 Try.underlying25 hi0 hz0 hz1 hz2 rfl (.slice A l.length c) l.length (l.map byteV) (by rfl) (kept_none (below_none hb1) hown) w1.heap.size A1 m c1 ((putF m n).map byteV) (by rfl) (by simp [hlen]) hx1.1 (bytes_oneCell _) (by unfold maxLen; omega) (by omega) (Nat.le_trans hbase hb1.size) ?_; intro A2 c2 w2 hown2 hg2 hat2; have hbl2 : w2.heap[p]? = some (.cells #[.slice A l.length c] 54 (0, 0)) := (hg2.block p (Nat.lt_of_lt_of_le hpw hb1.size) ((own_block (by decide) (kept_none (below_none hb1) hown) hbl1).elim (fun e => by rw [e]; simp) Ne.symm)).trans hbl1; have hc2 := cell_of_blk hbl2; have hf2 := frozen_of_blk hbl2 0)
      | fail)
  all_goals go_wp2
  all_goals
    go_end0
    exact ⟨rfl, A2, c2, HD.out.step hb1 (kept_none (below_none hb1) hown) hown2 hg2 hat2 hbl2 hlen hsm⟩
end Go.Proofs.Ythbaoljghofkoaa
