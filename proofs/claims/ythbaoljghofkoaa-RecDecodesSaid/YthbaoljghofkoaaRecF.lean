/- rec: Decode. Conditions: the bytes lie there. -/
import Derived.Test.YthbaoljghofkoaaRecA
namespace Go.Proofs.Ythbaoljghofkoaa
open Go.ChangeShapes Go.WideShapes Go.ChangeAt Go.RowKit
open NumMath
set_option linter.unusedVariables false
set_option linter.unusedSimpArgs false
set_option maxRecDepth 20000

def decN (l : List Nat) : Nat := getL (l.take 2)
def DecPost (l : List Nat) (w : World) (e : Ending) (w' : World) : Prop :=
  Below w.heap.size w w' ∧
  (((l.length < 27 ∨ decN l = 0 ∨ l.length < decN l) ∧ e = .returned (.tuple #[.agg (recA recZ memZ), .int .i64 0, .int .u16 60])) ∨
   (27 ≤ l.length ∧ 1 ≤ decN l ∧ decN l ≤ l.length ∧
     ((readP (l.take (decN l)) = none ∧ e = .returned (.tuple #[.agg (recA recZ memZ), .int .i64 0, .int .u16 61])) ∨
      (∃ r m, readP (l.take (decN l)) = some r ∧ e = .returned (.tuple #[.agg (recA r m), .int .i64 (decN l : Nat), .int .u16 0]) ∧ RecFrom w.heap.size w' r m))))
theorem results_dec {fn : Func} {p q s : Tmp} {ty : TypeId} (h : fn.results = #[.cell p ty, .tmp q, .tmp s]) (tmps : Array Value) (w : World) (g : Nat) (u : Value)
    (hp : tmps.getD p undef = .pointer (some ⟨g, 0, none⟩)) (hl : (loadVar ty ⟨g, 0, none⟩).run Try.prog w = .ok u w) :
    (results fn tmps).run Try.prog w = .ok (.tuple #[u, tmps.getD q undef, tmps.getD s undef]) w := by
  have hp' : tmps[p]?.getD undef = .pointer (some ⟨g, 0, none⟩) := by simpa using hp
  simp [results, h, hp', asAddr, hl]
theorem store_rec_new (w : World) (r : RecP) (m : RecMm) : (Instr.storeAt 31 (.pointer (some ⟨w.heap.size, 0, none⟩)) (.agg (recA r m))).run Try.prog (w.alloc (.cells #[.int .u8 0, .int .u32 0, .int .u64 0, .int .u64 0, .int .u32 0, .int .u16 0, .bool false, .bool false, .slice none 0 0, .slice none 0 0, .slice none 0 0, .slice none 0 0] 31)) = .ok () (w.alloc (.cells (recA r m) 31)) :=
  run_storeAt_new w 31 _ (recA r m) size_rec rfl (by simp [recA, Value.oneCell'])
set_option maxHeartbeats 16000000 in
theorem decode_any {A : Option Addr} {c : Nat} {l : List Nat} {w : World} (h : Bytes w w.heap.size A l) (hc : l.length ≤ c) (hl : l.length ≤ 100000) :
    Calls Try.prog 16 #[.slice A l.length c] w (DecPost l w) := by
  have kx : Blk (w.alloc (.cells #[.int .u8 0, .int .u32 0, .int .u64 0, .int .u64 0, .int .u32 0, .int .u16 0, .bool false, .bool false, .slice none 0 0, .slice none 0 0, .slice none 0 0, .slice none 0 0] 31)) w.heap.size 31 (recA recZ memZ) := Blk.new w _ _
  have hb := below_alloc w (.cells #[.int .u8 0, .int .u32 0, .int .u64 0, .int .u64 0, .int .u32 0, .int .u16 0, .bool false, .bool false, .slice none 0 0, .slice none 0 0, .slice none 0 0, .slice none 0 0] 31)
  have hb1 := h.below hb
  have KZ : Hid (∀ W, Below w.heap.size w W → Blk W w.heap.size 31 (recA recZ memZ) → (Instr.storeAt 31 (.pointer (some ⟨w.heap.size, 0, none⟩)) (.agg (recA recZ memZ))).run Try.prog W = .ok () (W.setRow w.heap.size (recA recZ memZ)) ∧ Blk (W.setRow w.heap.size (recA recZ memZ)) w.heap.size 31 (recA recZ memZ) ∧ Below w.heap.size w (W.setRow w.heap.size (recA recZ memZ))) := Lib.hid fun W b k =>
    ⟨store_rec_all k rfl recZ memZ, row_blk k _, b.trans ((only_row W w.heap.size (recA recZ memZ)).below b.size fun x q => by omega)⟩
  go_enter Try.func16, Try.ntmps16
  go_upto_region 1 with fail
  generalize World.alloc w _ = w1 at *
  have hbxw := kx.lt
  generalize hbx : w.heap.size = bx at *
  have hbs : bx ≤ w1.heap.size := by omega
  rcases Nat.lt_or_ge l.length 27 with z | z
  · have t1 : decide ((l.length : Int) < 27) = true := by rw [decide_eq_true_iff]; omega
    obtain ⟨st, k2, b2⟩ := KZ.out w1 hb kx
    have FIN : Hid (DecPost l w (.returned (.tuple #[.agg (recA recZ memZ), .int .i64 0, .int .u16 60])) (w1.setRow bx (recA recZ memZ))) := Lib.hid ⟨by rw [hbx]; exact b2, .inl ⟨.inl z, rfl⟩⟩
    have K2 := Lib.hid k2
    clear kx hb1 hb z KZ k2 b2 h
    go_wp2_with (refine wpList_store_run rfl 31 (.tmp 2) (.tmp 11) _ _ rfl rfl rfl st ?_; clear st)
    refine bodyPost_ret (results_dec rfl _ _ bx _ rfl (load_whole K2.out)) rfl ?_
    exact FIN.out
  have t1 : decide ((l.length : Int) < 27) = false := by rw [decide_eq_false_iff_not]; omega
  have hAA : ∃ b o, A = some ⟨b, o, none⟩ := by
    obtain ⟨b, o, e, _⟩ := h.1 0 (by simp; omega)
    exact ⟨b, o, e⟩
  have hlm : (l.take 2).length = 2 := by rw [List.length_take]; omega
  have hget := get_any A c (l.take 2) bx w1 (hb1.take 2) (by rw [hlm]; omega) (by rw [hlm]; omega)
  have hn2 := getL_take_lt h.2 2
  rw [hlm, List.take_take, show min 8 2 = 2 from rfl] at hget
  obtain ⟨n, hn⟩ : ∃ n, getL (l.take 2) = n := ⟨_, rfl⟩
  have HN : Hid (decN l = n) := Lib.hid hn
  rw [hn] at hget hn2
  have s1 : (2 : Int) ≤ (l.length : Int) := by omega
  have s2 : (2 : Int) ≤ (c : Int) := by omega
  have vn : IntKind.i64.wrap (n : Int) = (n : Int) := by rw [IntKind.wrap_i64]; omega
  have HZ := Lib.hid z
  clear hn hlm
  by_cases hbad : n = 0 ∨ l.length < n
  · obtain ⟨st, k2, b2⟩ := KZ.out w1 hb kx
    have FIN : Hid (DecPost l w (.returned (.tuple #[.agg (recA recZ memZ), .int .i64 0, .int .u16 60])) (w1.setRow bx (recA recZ memZ))) := Lib.hid ⟨by rw [hbx]; exact b2, .inl ⟨.inr (by rw [HN.out]; exact hbad), rfl⟩⟩
    have K2 := Lib.hid k2
    clear kx hb1 hb KZ k2 b2 h
    rcases hbad with rfl | hbad
    · go_wp2_with fail
      refine hget.mono ?_
      rintro e w2 ⟨rfl, rfl⟩
      go_wp2_with (refine wpList_store_run rfl 31 (.tmp 2) (.tmp 24) _ _ rfl rfl rfl st ?_; clear st)
      refine bodyPost_ret (results_dec rfl _ _ bx _ rfl (load_whole K2.out)) rfl ?_
      exact FIN.out
    · have t2 : ((n : Int) == 0) = false := by rw [beq_eq_false_iff_ne]; omega
      have t3 : decide ((l.length : Int) < (n : Int)) = true := by rw [decide_eq_true_iff]; omega
      go_wp2_with fail
      refine hget.mono ?_
      rintro e w2 ⟨rfl, rfl⟩
      go_wp2_with (refine wpList_store_run rfl 31 (.tmp 2) (.tmp 24) _ _ rfl rfl rfl st ?_; clear st)
      refine bodyPost_ret (results_dec rfl _ _ bx _ rfl (load_whole K2.out)) rfl ?_
      exact FIN.out
  · have t2 : ((n : Int) == 0) = false := by rw [beq_eq_false_iff_ne]; omega
    have t3 : decide ((l.length : Int) < (n : Int)) = false := by rw [decide_eq_false_iff_not]; omega
    have t3' : ¬ l.length < n := by omega
    have s3 : (0 : Int) ≤ (n : Int) := by omega
    have s4 : (n : Int) ≤ (l.length : Int) := by omega
    have s5 : (n : Int) ≤ (c : Int) := by omega
    have hbt : Bytes w1 w1.heap.size A (l.take n) := (hb1.take n).more (by omega)
    have hln : (l.take n).length = n := by rw [List.length_take]; omega
    have hrd := read_any hbt (show (l.take n).length ≤ c by omega) (by omega)
    rw [hln] at hrd
    have HB : Hid (27 ≤ l.length ∧ 1 ≤ decN l ∧ decN l ≤ l.length) := Lib.hid ⟨HZ.out, by rw [HN.out]; omega, by rw [HN.out]; omega⟩
    clear hb1 h hbad hbt hln HZ z
    go_wp2_with fail
    refine hget.mono ?_
    rintro e w2 ⟨rfl, rfl⟩
    clear hget
    go_wp2_with fail
    refine hrd.mono ?_
    rintro e w3 ⟨b3, ⟨r, m, hR, rfl, hF⟩ | ⟨hR, rfl⟩⟩
    · have kx3 := kx.below b3 hbxw
      have hb3 := hb.trans (b3.mono hbs)
      have st := store_rec_new w3 r m
      have k4 := Blk.new w3 31 (recA r m)
      have b4 := below_alloc w3 (.cells (recA r m) 31)
      have kx4 := kx3.alloc (.cells (recA r m) 31)
      have hF4 := hF.only (Only.of_below b4 (fun _ => False)) fun b q => q.elim
      have hgt := kx3.lt
      have hb4 := hb3.trans (b4.mono (Nat.le_of_lt hgt))
      have hsz4 : bx ≤ (w3.alloc (.cells (recA r m) 31)).heap.size := Nat.le_of_lt kx4.lt
      have ld := load_rec k4
      have st2 := store_rec_all kx4 rfl r m
      have hO5 := only_row (w3.alloc (.cells (recA r m) 31)) bx (recA r m)
      have hF5 := (hF4.only hO5 fun b q => by rw [q]; exact hbxw).less hbs
      have K5 := Lib.hid (row_blk kx4 (recA r m))
      have FIN : Hid (DecPost l w (.returned (.tuple #[.agg (recA r m), .int .i64 (n : Nat), .int .u16 0])) ((w3.alloc (.cells (recA r m) 31)).setRow bx (recA r m))) := Lib.hid ⟨by
        rw [hbx]
        exact hb4.trans (hO5.below hsz4 fun x q => by omega), .inr ⟨HB.out.1, HB.out.2.1, HB.out.2.2, .inr ⟨r, m, by rw [HN.out]; exact hR, by rw [HN.out], by rw [hbx]; exact hF5⟩⟩⟩
      clear hrd kx kx3 hb3 b4 hF hF4 hF5 hO5 kx4 k4 hb4 hR b3 hb KZ
      go_wp2_with (first | (refine wpList_load_run rfl 31 (.tmp 6) _ _ rfl rfl ld ?_; clear ld) | (refine wpList_store_run rfl 31 (.tmp 6) (.tmp 30) _ _ rfl rfl rfl st ?_; clear st) | (refine wpList_store_run rfl 31 (.tmp 2) (.tmp 35) _ _ rfl rfl rfl st2 ?_; clear st2))
      refine bodyPost_ret (results_dec rfl _ _ bx _ rfl (load_whole K5.out)) rfl ?_
      exact FIN.out
    · have kx3 := kx.below b3 hbxw
      have hb3 := hb.trans (b3.mono hbs)
      have st := store_rec_new w3 recZ memZ
      have b4 := below_alloc w3 (.cells (recA recZ memZ) 31)
      have kx4 := kx3.alloc (.cells (recA recZ memZ) 31)
      have hgt := kx3.lt
      have hb4 := hb3.trans (b4.mono (Nat.le_of_lt hgt))
      have hsz4 : bx ≤ (w3.alloc (.cells (recA recZ memZ) 31)).heap.size := Nat.le_of_lt kx4.lt
      have st2 := store_rec_all kx4 rfl recZ memZ
      have hO5 := only_row (w3.alloc (.cells (recA recZ memZ) 31)) bx (recA recZ memZ)
      have K5 := Lib.hid (row_blk kx4 (recA recZ memZ))
      have FIN : Hid (DecPost l w (.returned (.tuple #[.agg (recA recZ memZ), .int .i64 0, .int .u16 61])) ((w3.alloc (.cells (recA recZ memZ) 31)).setRow bx (recA recZ memZ))) := Lib.hid ⟨by
        rw [hbx]
        exact hb4.trans (hO5.below hsz4 fun x q => by omega), .inr ⟨HB.out.1, HB.out.2.1, HB.out.2.2, .inl ⟨by rw [HN.out]; exact hR, rfl⟩⟩⟩
      clear hrd kx kx3 hb3 b4 hO5 kx4 hb4 hR b3 hb KZ
      go_wp2_with (first | (refine wpList_store_run rfl 31 (.tmp 6) (.tmp 30) _ _ rfl rfl rfl st ?_; clear st) | (refine wpList_store_run rfl 31 (.tmp 2) (.tmp 34) _ _ rfl rfl rfl st2 ?_; clear st2))
      refine bodyPost_ret (results_dec rfl _ _ bx _ rfl (load_whole K5.out)) rfl ?_
      exact FIN.out
end Go.Proofs.Ythbaoljghofkoaa
