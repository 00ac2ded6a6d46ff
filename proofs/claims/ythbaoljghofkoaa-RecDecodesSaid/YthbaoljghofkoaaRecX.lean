/- rec: the writer's bytes and change. Conditions: as stated. -/
import Derived.Test.YthbaoljghofkoaaRecW
namespace Go.Proofs.Ythbaoljghofkoaa
open Go.ChangeShapes Go.WideShapes Go.ChangeAt Go.RowKit
open NumMath
set_option linter.unusedVariables false
set_option linter.unusedSimpArgs false
set_option maxRecDepth 20000

theorem Wr.low {base p B : Nat} {W0 w : World} {S : Nat → Prop} {l : List Nat} {A : Option Addr} {c : Nat} (h : Wr base W0 S p l w A c) (hB : B ≤ W0.heap.size) (hS : ∀ b, S b → B ≤ b) : Below B W0 w := h.only.below hB hS
set_option maxHeartbeats 2000000 in
theorem wbytes_any (d : List Nat) (A1 : Option Addr) (c1 : Nat) (B : Nat) {base : Nat} {W0 : World} {S : Nat → Prop} {p : Nat} {l : List Nat} {w : World} (h : WrE base W0 S p l w) (hd : Bytes W0 B A1 d) (hB : B ≤ W0.heap.size) (hS : ∀ b, S b → B ≤ b) (hl : l.length ≤ 90000) (hdl : d.length ≤ 255) :
    Calls Try.prog 42 #[.pointer (some ⟨p, 0, none⟩), .slice A1 d.length c1] w fun e w' => e = .returned (.tuple #[]) ∧ WrE base W0 S p (l ++ lenL d) w' := by
  obtain ⟨i0, hi0, hz0, hz1, hz2⟩ := info_parts u8_info
  have cn := wnum_any d.length 1 (by omega) (by omega) (by omega) h (by omega)
  have v1 : IntKind.u64.wrap (d.length : Int) = (d.length : Int) := by rw [IntKind.wrap_u64]; omega
  have hLL : l ++ lenL d = (l ++ putF 1 d.length) ++ d := by unfold lenL; rw [List.append_assoc]
  rw [hLL]
  clear hLL h
  go_enter Try.func42, Try.ntmps42
  go_wp2_with fail
  refine cn.mono ?_
  rintro e w1 ⟨rfl, A, c, hw⟩
  clear cn
  have hll : (l ++ putF 1 d.length).length ≤ 100000 := by rw [List.length_append, putF_length]; omega
  generalize hl1 : l ++ putF 1 d.length = l1 at *
  have HL1 := Lib.hid hl1
  clear hl1
  have hb := hw.blk
  have hc := hb.cell 0
  have hby := hd.below (hw.low hB hS)
  have hbase : base ≤ w1.heap.size := Nat.le_trans hw.bas hw.only.size
  have hown := hw.own
  have hpw := hw.pw
  have HW := Lib.hid hw
  clear hw hd
  go_wp2_with (at_builtin; refine wpList_append_at2 rfl _ _ 25 25 rfl base 5 i0 _ 1 Try.underlying25 Try.underlying25 hi0 hz0 hz1 hz2 rfl (.slice A l1.length c) l1.length (l1.map byteV) rfl hown B A1 d.length c1 (d.map byteV) rfl (by rw [List.length_map]) hby.1 (bytes_oneCell _) (by unfold maxLen; omega) (by omega) hbase ?_; intro A2 c2 w2 hown2 hg2 hat2; have hbl2 : w2.heap[p]? = some (.cells #[.slice A l1.length c] 54 (0, 0)) := (hg2.block p hpw ((own_block (by decide) hown hb).elim (fun e => by rw [e]; simp) Ne.symm)).trans hb; have hc2 := cell_of_blk hbl2; have hf2 := frozen_of_blk hbl2 0)
  go_end0
  exact ⟨rfl, by rw [HL1.out]; exact ⟨A2, c2, HW.out.step (Below.refl _ _) hown hown2 hg2 hat2 hbl2 rfl hby.2⟩⟩
/-- a writer's contracts stand when something is boxed -/
theorem WrE.boxed {base p B : Nat} {W0 w : World} {S : Nat → Prop} {l : List Nat} (h : WrE base W0 S p l w) (hB : B ≤ W0.heap.size) (hS : ∀ b, S b → B ≤ b) (o : Obj) :
    ∃ S', WrE base (w.alloc o) S' p l (w.alloc o) ∧ (∀ b, S' b → b < w.heap.size) ∧ (∀ b, S' b → B ≤ b) ∧ Below B W0 (w.alloc o) ∧ B ≤ (w.alloc o).heap.size ∧ (∀ l' w', WrE base (w.alloc o) S' p l' w' → WrE base W0 S p l' w') := by
  obtain ⟨A, c, h⟩ := h
  obtain ⟨h1, h2⟩ := h.rebase o
  have hb := (Below.refl w.heap.size w).alloc (Nat.le_refl _) o
  refine ⟨_, ⟨A, c, h1⟩, fun b q => (h2 b q).1, fun b q => ?_, (h.low hB hS).trans (hb.mono (Nat.le_trans hB h.only.size)), Nat.le_trans hB (Nat.le_trans h.only.size hb.size), ?_⟩
  · rcases (h2 b q).2 with z | z
    · exact hS b z
    · omega
  · rintro l' w' ⟨A', c', h'⟩
    exact ⟨A', c', Wr.back h.only hb (fun b q => (h2 b q).2) h.sp h.bas h.plt h'⟩
theorem load_chg0 {w : World} {g : Nat} {c : ChgP} {m : ChgM} (h : Blk w g 27 (chgV c m)) : (Instr.loadAt 27 (.pointer (some ⟨g, 0, none⟩))).run Try.prog w = .ok (.agg (chgV c m)) w :=
  run_load_blk h 0 27 (chgV c m).toList _ (fun j v hv => by rw [Nat.zero_add]; simpa using hv) Try.underlying27 rfl size_chg
set_option maxHeartbeats 4000000 in
theorem wchange_any (ch : ChgP) (m : ChgM) (B : Nat) {base : Nat} {W0 : World} {S : Nat → Prop} {p : Nat} {l : List Nat} {w : World} (h : WrE base W0 S p l w) (hd : ChgAt W0 B ch m) (hB : B ≤ W0.heap.size) (hS : ∀ b, S b → B ≤ b) (hl : l.length ≤ 80000) (hb1 : ch.before.length ≤ 255) (hb2 : ch.after.length ≤ 255) :
    Calls Try.prog 24 #[.pointer (some ⟨p, 0, none⟩), .agg (chgV ch m)] w fun e w' => e = .returned (.tuple #[]) ∧ WrE base W0 S p (l ++ chgL ch) w' := by
  obtain ⟨S', h1, hs1, hs2, hb, hB1, hback⟩ := h.boxed hB hS (.cells (chgV ch m) 27)
  have kb := Blk.new w 27 (chgV ch m)
  have hd1 := hd.below hb
  have HBK := Lib.hid hback
  have hnb : ¬ S' w.heap.size := fun q => by have := hs1 _ q; omega
  have hLL : l ++ chgL ch = ((((l ++ putF 4 ch.page) ++ putF 2 ch.slot) ++ putF 1 (flagsN ch)) ++ lenL ch.before) ++ lenL ch.after := by unfold chgL; simp only [List.append_assoc]
  rw [hLL]
  have hfl : flagsN ch < 4 := by unfold flagsN; split <;> split <;> omega
  obtain ⟨hp32, hs16, -, -⟩ := hd.fits
  clear h hd hb hback hLL
  go_enter Try.func24, Try.ntmps24
  go_upto_region 1 with fail
  generalize World.alloc w _ = w1 at *
  have hk : ∀ W, Only S' w1 W → Blk W w.heap.size 27 (chgV ch m) := fun W hW => kb.only hW hnb
  have v4 : IntKind.u64.wrap (ch.page : Int) = (ch.page : Int) := by rw [IntKind.wrap_u64]; omega
  have v2 : IntKind.u64.wrap (ch.slot : Int) = (ch.slot : Int) := by rw [IntKind.wrap_u64]; omega
  have kc := ChgBox.of kb
  have q0 := kc.k0
  have cn := wnum_any ch.page 4 (by omega) (by omega) (by omega) h1 (by omega)
  clear kc h1 kb
  go_wp2_with fail
  refine cn.mono ?_
  rintro e w2 ⟨rfl, h2⟩
  have hO2 : Only S' w1 w2 := by obtain ⟨A, c, z⟩ := h2; exact z.only
  have kc := ChgBox.of (hk w2 hO2)
  have q1 := kc.k1
  have cn2 := wnum_any ch.slot 2 (by omega) (by omega) (by omega) h2 (by rw [List.length_append, putF_length]; omega)
  clear cn q0 kc h2 hO2
  go_wp2_with fail
  refine cn2.mono ?_
  rintro e w3 ⟨rfl, h3⟩
  have hO3 : Only S' w1 w3 := by obtain ⟨A, c, z⟩ := h3; exact z.only
  have ld := load_chg0 (hk w3 hO3)
  have cf := flags_any ch m w3
  clear cn2 q1
  go_wp2_with (refine wpList_load_run rfl 27 (.tmp 3) _ _ rfl rfl ld ?_; clear ld)
  refine cf.mono ?_
  rintro e w4 ⟨rfl, b4⟩
  have h4 : WrE base w1 S' p ((l ++ putF 4 ch.page) ++ putF 2 ch.slot) w4 := by obtain ⟨A, c, z⟩ := h3; exact ⟨A, c, z.below b4⟩
  have cn4 := wnum_any (flagsN ch) 1 (by omega) (by omega) (by omega) h4 (by rw [List.length_append, List.length_append, putF_length, putF_length]; omega)
  clear cf b4 h3 h4 hO3
  go_wp2_with fail
  refine cn4.mono ?_
  rintro e w5 ⟨rfl, h5⟩
  have hO5 : Only S' w1 w5 := by obtain ⟨A, c, z⟩ := h5; exact z.only
  have q4 := (ChgBox.of (hk w5 hO5)).k4
  have cb5 := wbytes_any ch.before m.A1 m.c1 B h5 hd1.bef hB1 hs2 (by simp only [List.length_append, putF_length]; omega) hb1
  clear cn4 h5 hO5
  go_wp2_with fail
  refine cb5.mono ?_
  rintro e w6 ⟨rfl, h6⟩
  have hO6 : Only S' w1 w6 := by obtain ⟨A, c, z⟩ := h6; exact z.only
  have q5 := (ChgBox.of (hk w6 hO6)).k5
  have cb6 := wbytes_any ch.after m.A2 m.c2 B h6 hd1.aft hB1 hs2 (by simp only [List.length_append, putF_length, lenL_length]; omega) hb2
  clear cb5 h6 hO6 q4
  go_wp2_with fail
  refine cb6.mono ?_
  rintro e w7 ⟨rfl, h7⟩
  have FIN := Lib.hid (HBK.out _ _ h7)
  clear cb6 h7 q5
  go_wp2
  go_end0
  exact ⟨rfl, FIN.out⟩
end Go.Proofs.Ythbaoljghofkoaa
