/- rec's document: Decode. Conditions: the bytes lie there. -/
import Derived.Test.YtkganajbilnanaaGreatYRecFn
set_option linter.unusedVariables false
set_option linter.unusedSimpArgs false
namespace Go.Proofs.YtkganajbilnanaaGreat
open Go.ChangeShapes Go.WideShapes Go.ChangeAt Go.RowKit
open NumMath
set_option maxRecDepth 20000
theorem num_lit {A : Option Addr} {c : Nat} {l : List Nat} {w0 : World} (H : Bytes w0 w0.heap.size A l) {ln : Nat} (hln : l.length = ln) (hl : ln ≤ 100000) (p n : Nat) (hp : p ≤ 100000) (hn : n ≤ 8) (P N : Int) (hP : P = (p : Nat)) (hN : N = (n : Nat)) :
    ∃ a : Nat, numB l p n = a ∧ a < 256 ^ n ∧ ∀ W, Below w0.heap.size w0 W → Calls Tryz.prog 85 #[.slice A ln c, .int .i64 P, .int .i64 N] W fun e w' => e = .returned (.int .u64 (a : Nat)) ∧ Below W.heap.size W w' := by
  subst hP hN hln
  exact ⟨_, rfl, numB_lt H.2 p n, fun W hW => number_any A c l p n w0.heap.size W (H.below hW) hW.size hl hp hn⟩
theorem part_lit {A : Option Addr} {c : Nat} {l : List Nat} {w0 : World} (H : Bytes w0 w0.heap.size A l) {ln : Nat} (hln : l.length = ln) (hl : ln ≤ 100000) (p n : Nat) (hp : p ≤ 100000) (hn : n ≤ 100000) (P : Int) (hP : P = (p : Nat)) :
    ∃ d : List Nat, partL l p n = d ∧ d.length = n ∧ Small d ∧ ∀ W, Below w0.heap.size w0 W → Calls Tryz.prog 86 #[.slice A ln c, .int .i64 P, .int .i64 (n : Nat)] W fun e w' => ∃ A' c', e = .returned (.slice A' n c') ∧ w'.ownsRow W.heap.size 5 1 (.slice A' n c') n (d.map byteV) ∧ Below W.heap.size W w' := by
  subst hP hln
  refine ⟨_, rfl, partL_length _ _ _, partL_small H.2 _ _, fun W hW => (part_any A c l p n w0.heap.size W (H.below hW) hW.size hl hp hn).mono ?_⟩
  rintro e w' ⟨A', c', he, ho, hb, -⟩
  rw [partL_length] at he ho
  exact ⟨A', c', he, ho, hb⟩
def RDecPost (l : List Nat) (w : World) (e : Ending) (w' : World) : Prop :=
  Below w.heap.size w w' ∧
  (((l.length < 27 ∨ numB l 0 2 = 0 ∨ l.length < numB l 0 2) ∧ e = .returned (.tuple #[.agg (recA recZ memZ), .int .i64 0, .int .i64 60])) ∨
   (27 ≤ l.length ∧ 1 ≤ numB l 0 2 ∧ numB l 0 2 ≤ l.length ∧
     ((¬ (okR (parseQ (l.take (numB l 0 2))) = true ∧ encL (parseQ (l.take (numB l 0 2))) = l.take (numB l 0 2)) ∧ e = .returned (.tuple #[.agg (recA recZ memZ), .int .i64 0, .int .i64 61])) ∨
      (okR (parseQ (l.take (numB l 0 2))) = true ∧ encL (parseQ (l.take (numB l 0 2))) = l.take (numB l 0 2) ∧ ∃ m, e = .returned (.tuple #[.agg (recA (parseQ (l.take (numB l 0 2))) m), .int .i64 (numB l 0 2 : Nat), .int .i64 0]) ∧ RecFrom w.heap.size w' (parseQ (l.take (numB l 0 2))) m))))
structure DS (g0 bx : Nat) (r : RecP) (m : RecMm) (w0 w : World) : Prop where
  z : Blk w g0 51 (recA recZ memZ)
  x : Blk w bx 51 (recA r m)
  lo : Below w0.heap.size w0 w
  ne : g0 ≠ bx
  hz : w0.heap.size ≤ g0
  hx : w0.heap.size ≤ bx
theorem DS.below {g0 bx : Nat} {r : RecP} {m : RecMm} {w0 w w' : World} (h : DS g0 bx r m w0 w) (hb : Below w.heap.size w w') : DS g0 bx r m w0 w' :=
  ⟨h.z.below hb h.z.lt, h.x.below hb h.x.lt, h.lo.trans (hb.mono h.lo.size), h.ne, h.hz, h.hx⟩
theorem store_chg_fresh (w : World) (c : ChgP) (m : ChgM) : (Instr.storeAt 47 (.pointer (some ⟨w.heap.size, 0, none⟩)) (.agg (chgV c m))).run Tryz.prog (w.alloc (.cells #[.int .u32 0, .int .u16 0, .bool false, .bool false, .slice none 0 0, .slice none 0 0] 47)) = .ok () (w.alloc (.cells (chgV c m) 47)) := store_chg w c m
section
variable {g0 bx gc : Nat} {r : RecP} {m : RecMm} {w0 w : World}
theorem DS.far (h : DS g0 bx r m w0 w) (h1 : gc ≠ g0) (h2 : gc ≠ bx) (h3 : w0.heap.size ≤ gc) (i : Nat) (u : Value) : DS g0 bx r m w0 (w.setCell ⟨gc, i, none⟩ u) :=
  ⟨h.z.far (p := ⟨gc, i, none⟩) (Ne.symm h1) u, h.x.far (p := ⟨gc, i, none⟩) (Ne.symm h2) u, h.lo.trans (((Only.refl (fun b => b = gc) w).setCell (p := ⟨gc, i, none⟩) (.inl rfl) u).below h.lo.size (fun b q => by rw [q]; exact h3)), h.ne, h.hz, h.hx⟩
theorem DS.chg (h : DS g0 bx r m w0 w) (c : ChgP) (cm : ChgM) : DS g0 bx { r with chg := c } { m with cm := cm } w0 (w.setCells bx 4 (chgV c cm).toList) :=
  ⟨h.z.only (setCells_only w bx _ 4) h.ne, (((((h.x.set_ 4 _).set_ 5 _).set_ 6 _).set_ 7 _).set_ 8 _).set_ 9 _, h.lo.trans ((setCells_only w bx _ 4).below h.lo.size (fun b q => by rw [q]; exact h.hx)), h.ne, h.hz, h.hx⟩
theorem store_chg_mid (h : Blk w bx 51 (recA r m)) (c : ChgP) (cm : ChgM) :
    (Instr.storeAt 47 (.pointer (some ⟨bx, 4, none⟩)) (.agg (chgV c cm))).run Tryz.prog w = .ok () (w.setCells bx 4 (chgV c cm).toList) :=
  run_storeAt_mid w bx 4 47 (chgV c cm) (fun j hj => ⟨by rw [h.cell]; rw [Array.getElem?_eq_getElem (by have : (chgV c cm).size = 6 := rfl; have : (recA r m).size = 12 := rfl; omega)]; rfl, h.frozen _⟩) size_chg (by simp [chgV, Value.oneCell'])
end
theorem own_set {w : World} {base : Nat} {e : TypeId} {s : Nat} {v : Value} {n : Nat} {xs : List Value} (o : w.ownsRow base e s v n xs) {g : Nat} (hg : g < base) (i : Nat) (u : Value) : (w.setCell ⟨g, i, none⟩ u).ownsRow base e s v n xs :=
  ((Only.refl (fun b => b = g) w).setCell (p := ⟨g, i, none⟩) (.inl rfl) u).own o fun k hk q => by have := (o.lt k hk).1; omega
structure TabJ (g0 bx : Nat) (cs : Array Value) (w0 W0 : World) (e : TypeId) (size i : Nat) (cells : List Value) (n : Nat) (w : World) (A : Option Addr) (c : Nat) : Prop where
  z : Blk w g0 51 (recA recZ memZ)
  x : Blk w bx 51 (cs.setIfInBounds i (.slice A n c))
  own : w.ownsRow W0.heap.size e size (.slice A n c) n cells
  lo : Below w0.heap.size w0 w
  only : Only (fun b => b = bx) W0 w
  ne : g0 ≠ bx
section
variable {g0 bx size i n : Nat} {cs : Array Value} {w0 W0 w w' : World} {e : TypeId} {cells : List Value} {A : Option Addr} {c : Nat}
theorem TabJ.below (h : TabJ g0 bx cs w0 W0 e size i cells n w A c) (hb : Below w.heap.size w w') : TabJ g0 bx cs w0 W0 e size i cells n w' A c :=
  ⟨h.z.below hb h.z.lt, h.x.below hb h.x.lt, kept_none (below_none hb) h.own, h.lo.trans (hb.mono h.lo.size), h.only.trans (Only.of_below hb (fun _ => False)) (fun b q => q.elim), h.ne⟩
theorem TabJ.step (h : TabJ g0 bx cs w0 W0 e size i cells n w A c) (he : e ≠ 51) (hz : w0.heap.size ≤ bx) (hW : w0.heap.size ≤ W0.heap.size) (o : Obj) {news : List Value} {w7 : World} {A7 : Option Addr} {c7 : Nat}
    (ho : w7.ownsRow W0.heap.size e size (.slice A7 (n + 1) c7) (n + 1) (cells ++ news)) (hg : (w.alloc o).grownBy w7 (Value.slice A n c).ownBlock) :
    Blk w7 bx 51 (cs.setIfInBounds i (.slice A n c)) ∧ TabJ g0 bx cs w0 W0 e size i (cells ++ news) (n + 1) (w7.setCell ⟨bx, i, none⟩ (.slice A7 (n + 1) c7)) A7 c7 := by
  have hax : ∀ k, (Value.slice A n c).ownBlock = some k → k ≠ bx := fun k hk q => by
    rcases own_block he h.own h.x with z | z
    · rw [z] at hk; cases hk
    · rw [q] at hk; exact z hk
  have haz : ∀ k, (Value.slice A n c).ownBlock = some k → k ≠ g0 := fun k hk q => by
    rcases own_block he h.own h.z with z | z
    · rw [z] at hk; cases hk
    · rw [q] at hk; exact z hk
  have hb : Below w.heap.size w (w.alloc o) := (Below.refl _ w).alloc (Nat.le_refl _) o
  have hO1 : Only (fun b => (Value.slice A n c).ownBlock = some b) w w7 := (Only.of_below hb _).trans (Only.of_grown (S := fun b => (Value.slice A n c).ownBlock = some b) hg fun k hk => .inl hk) fun b q => .inl q
  have hk := h.x.only hO1 fun q => hax _ q rfl
  have hO2 : Only (fun b => (Value.slice A n c).ownBlock = some b ∨ b = bx) w (w7.setCell ⟨bx, i, none⟩ (.slice A7 (n + 1) c7)) := (hO1.mono fun b q => .inl (.inl q)).setCell (p := ⟨bx, i, none⟩) (.inl (.inr rfl)) _
  have hlow : ∀ k, (Value.slice A n c).ownBlock = some k → W0.heap.size ≤ k := fun k hk => (h.own.lt k hk).1
  refine ⟨hk, ?_, ?_, ?_, ?_, ?_, h.ne⟩
  · exact h.z.only hO2 fun q => q.elim (fun q => haz _ q rfl) fun q => h.ne q
  · have := hk.set_ i (.slice A7 (n + 1) c7)
    rwa [Array.setIfInBounds_setIfInBounds] at this
  · exact ho.kept (row := some bx) (((Only.refl (fun b => b = bx) w7).setCell (p := ⟨bx, i, none⟩) (.inl rfl) _).grown (fun k hk => by rw [hk])) ((own_block he ho hk).imp id id)
  · exact h.lo.trans (hO2.below h.lo.size fun b q => q.elim (fun q => Nat.le_trans hW (hlow b q)) fun q => by rw [q]; exact hz)
  · exact h.only.trans hO2 fun b q => q.elim (fun q => .inr (hlow b q)) fun q => .inl q
end
theorem RecP.Fits.kind' {p : RecP} {k tx pv nx : Nat} {ch : ChgP} {ts : List TxP} {ds : List DirP} (h : p.Fits) (e : p = ⟨k, tx, pv, nx, ch, ts, ds⟩) : k < 256 := by subst e; exact h.kind
theorem RecP.Fits.txn' {p : RecP} {k tx pv nx : Nat} {ch : ChgP} {ts : List TxP} {ds : List DirP} (h : p.Fits) (e : p = ⟨k, tx, pv, nx, ch, ts, ds⟩) : tx < 4294967296 := by subst e; exact h.txn
theorem RecP.Fits.prev' {p : RecP} {k tx pv nx : Nat} {ch : ChgP} {ts : List TxP} {ds : List DirP} (h : p.Fits) (e : p = ⟨k, tx, pv, nx, ch, ts, ds⟩) : pv < 18446744073709551616 := by subst e; exact h.prev
theorem RecP.Fits.next' {p : RecP} {k tx pv nx : Nat} {ch : ChgP} {ts : List TxP} {ds : List DirP} (h : p.Fits) (e : p = ⟨k, tx, pv, nx, ch, ts, ds⟩) : nx < 18446744073709551616 := by subst e; exact h.next
set_option maxHeartbeats 16000000 in
theorem refdecode_any {A : Option Addr} {c : Nat} {l : List Nat} {w : World} (h : Bytes w w.heap.size A l) (hc : l.length ≤ c) (hl : l.length ≤ 8000) :
    Calls Tryz.prog 36 #[.slice A l.length c] w (RDecPost l w) := by
  have kz : Blk (w.alloc (.cells #[.int .u8 0, .int .u32 0, .int .u64 0, .int .u64 0, .int .u32 0, .int .u16 0, .bool false, .bool false, .slice none 0 0, .slice none 0 0, .slice none 0 0, .slice none 0 0] 51)) w.heap.size 51 (recA recZ memZ) := Blk.new w _ _
  have hb0 := below_alloc w (.cells #[.int .u8 0, .int .u32 0, .int .u64 0, .int .u64 0, .int .u32 0, .int .u16 0, .bool false, .bool false, .slice none 0 0, .slice none 0 0, .slice none 0 0, .slice none 0 0] 51)
  have KZ : Hid (∀ W, Below w.heap.size w W → Blk W w.heap.size 51 (recA recZ memZ) → ∀ r m, (Instr.storeAt 51 (.pointer (some ⟨w.heap.size, 0, none⟩)) (.agg (recA r m))).run Tryz.prog W = .ok () (W.setRow w.heap.size (recA r m)) ∧ Blk (W.setRow w.heap.size (recA r m)) w.heap.size 51 (recA r m) ∧ Below w.heap.size w (W.setRow w.heap.size (recA r m))) := Lib.hid fun W b k r m =>
    ⟨store_rec_all k rfl r m, row_blk k _, b.trans ((only_row W w.heap.size (recA r m)).below b.size fun x q => by omega)⟩
  obtain ⟨ln, hln⟩ : ∃ ln, l.length = ln := ⟨_, rfl⟩
  obtain ⟨N, hN, nb, C0⟩ := num_lit (c := c) h hln (by omega) 0 2 (by omega) (by omega) 0 2 rfl rfl
  have hPOST : Hid (∀ e W, Below w.heap.size w W → (((ln < 27 ∨ N = 0 ∨ ln < N) ∧ e = .returned (.tuple #[.agg (recA recZ memZ), .int .i64 0, .int .i64 60])) ∨
   (27 ≤ ln ∧ 1 ≤ N ∧ N ≤ ln ∧ ((¬ (okR (parseQ (l.take N)) = true ∧ encL (parseQ (l.take N)) = l.take N) ∧ e = .returned (.tuple #[.agg (recA recZ memZ), .int .i64 0, .int .i64 61])) ∨
      (okR (parseQ (l.take N)) = true ∧ encL (parseQ (l.take N)) = l.take N ∧ ∃ m, e = .returned (.tuple #[.agg (recA (parseQ (l.take N)) m), .int .i64 (N : Nat), .int .i64 0]) ∧ RecFrom w.heap.size W (parseQ (l.take N)) m)))) → RDecPost l w e W) := Lib.hid fun e W a b => by
    subst hln hN
    exact ⟨a, b⟩
  rw [hln] at hc hl ⊢
  have HLN := Lib.hid hln
  have nb' : N < 65536 := nb
  have v0 : IntKind.i64.wrap (N : Int) = (N : Int) := by rw [IntKind.wrap_i64]; omega
  have H := Lib.hid h
  clear hN h nb hln
  go_enter Tryz.func36, Tryz.ntmps36
  go_upto_region 1 with fail
  generalize World.alloc w _ = w1 at *
  have hg0 := kz.lt
  have c0 := C0 w1 hb0
  have HB0 := Lib.hid hb0
  have HZ0 := Lib.hid kz
  clear C0 hb0 kz
  go_wp2_with fail
  refine c0.mono ?_
  rintro e w2 ⟨rfl, b2⟩
  have hb2 := HB0.out.trans (b2.mono HB0.out.size)
  have kz2 := HZ0.out.below b2 hg0
  clear c0 b2
  by_cases ERR : ln < 27 ∨ N = 0 ∨ ln < N
  · obtain ⟨st, k2, bf⟩ := KZ.out w2 hb2 kz2 recZ memZ
    have FIN := Lib.hid (hPOST.out (.returned (.tuple #[.agg (recA recZ memZ), .int .i64 0, .int .i64 60])) (w2.setRow w.heap.size (recA recZ memZ)) bf (.inl ⟨ERR, rfl⟩))
    have K2 := Lib.hid k2
    clear k2 bf hb2 kz2
    rcases Nat.lt_or_ge ln 27 with z | z
    · have t1 : decide ((ln : Int) < 27) = true := by rw [decide_eq_true_iff]; omega
      clear ERR
      go_wp2_with (refine wpList_store_run rfl 51 (.tmp 2) (.tmp 33) _ _ rfl rfl rfl st ?_; clear st)
      refine bodyPost_ret (results_dec rfl _ _ w.heap.size _ rfl (load_whole K2.out)) rfl ?_
      exact FIN.out
    · have t1 : decide ((ln : Int) < 27) = false := by rw [decide_eq_false_iff_not]; omega
      by_cases z1 : N = 0
      · have t2 : ((N : Int) == 0) = true := by rw [beq_iff_eq]; omega
        clear ERR
        go_wp2_with (refine wpList_store_run rfl 51 (.tmp 2) (.tmp 33) _ _ rfl rfl rfl st ?_; clear st)
        refine bodyPost_ret (results_dec rfl _ _ w.heap.size _ rfl (load_whole K2.out)) rfl ?_
        exact FIN.out
      · have t2 : ((N : Int) == 0) = false := by rw [beq_eq_false_iff_ne]; omega
        have z2 : ln < N := by omega
        have t3 : decide ((ln : Int) < (N : Int)) = true := by rw [decide_eq_true_iff]; omega
        clear ERR
        go_wp2_with (refine wpList_store_run rfl 51 (.tmp 2) (.tmp 33) _ _ rfl rfl rfl st ?_; clear st)
        refine bodyPost_ret (results_dec rfl _ _ w.heap.size _ rfl (load_whole K2.out)) rfl ?_
        exact FIN.out
  have z1 : 27 ≤ ln := by omega
  have z2 : 1 ≤ N := by omega
  have z3 : N ≤ ln := by omega
  have HZZ := Lib.hid (And.intro z1 (And.intro z2 z3))
  have t1 : decide ((ln : Int) < 27) = false := by rw [decide_eq_false_iff_not]; omega
  have t2 : ((N : Int) == 0) = false := by rw [beq_eq_false_iff_ne]; omega
  have t3 : decide ((ln : Int) < (N : Int)) = false := by rw [decide_eq_false_iff_not]; omega
  have u3 : decide (ln < N) = false := by rw [decide_eq_false_iff_not]; omega
  have u4 : ¬ (ln < N) := by omega
  have s0 : (0 : Int) ≤ (N : Int) := by omega
  have s1 : (N : Int) ≤ (c : Int) := by omega
  have hLl : (l.take N).length = N := by rw [List.length_take, HLN.out]; omega
  have hL := H.out.take N
  obtain ⟨L, hLe⟩ : ∃ L, l.take N = L := ⟨_, rfl⟩
  rw [hLe] at hLl hL hPOST
  have HLT := Lib.hid hL
  have HLL := Lib.hid hLl
  have hN5 : N ≤ 8000 := by omega
  obtain ⟨k, hk, kb, C1⟩ := num_lit (c := c) hL hLl (by omega) 6 1 (by omega) (by omega) 6 1 rfl rfl
  obtain ⟨tx, htx, txb, C2⟩ := num_lit (c := c) hL hLl (by omega) 7 4 (by omega) (by omega) 7 4 rfl rfl
  obtain ⟨pv, hpv, pvb, C3⟩ := num_lit (c := c) hL hLl (by omega) 11 8 (by omega) (by omega) 11 8 rfl rfl
  obtain ⟨nx, hnx, nxb, C4⟩ := num_lit (c := c) hL hLl (by omega) 19 8 (by omega) (by omega) 19 8 rfl rfl
  have hPQ : parseQ L = ⟨k, tx, pv, nx, if chgs k = true then chgQ L else chgZ0, if k = 8 then txsQ L (ntQ L) else [], if k = 8 then dirsQ L (29 + 21 * ntQ L) (npQ L) else []⟩ := by
    unfold parseQ
    rw [hk, htx, hpv, hnx]
  have hPF := parseQ_fits hL.2
  have HPQ := Lib.hid hPQ
  have HPF := Lib.hid hPF
  have kb' : k < 256 := kb
  have txb' : tx < 4294967296 := txb
  have w1' : IntKind.u8.wrap (k : Int) = (k : Int) := by rw [IntKind.wrap_u8]; omega
  have w1m : (k : Int) % 256 = (k : Int) := by omega
  have w2' : IntKind.u32.wrap (tx : Int) = (tx : Int) := by rw [IntKind.wrap_u32]; omega
  have w2m : (tx : Int) % 4294967296 = (tx : Int) := by omega
  have c1 := C1 w2 hb2
  have HC2 := Lib.hid C2
  have HC3 := Lib.hid C3
  have HC4 := Lib.hid C4
  clear hk htx hpv hnx kb txb pvb nxb hPQ hPF hL hLl hLe ERR z1 z2 z3 C1 C2 C3 C4 hc hl
  go_wp2_with fail
  clear t1 t2 t3 s0 s1
  refine c1.mono ?_
  rintro e w3 ⟨rfl, b3⟩
  have hb3 := hb2.trans (b3.mono hb2.size)
  have kz3 := kz2.below b3 kz2.lt
  have c2 := HC2.out w3 hb3
  clear c1 b3 hb2 kz2
  go_wp2_with fail
  refine c2.mono ?_
  rintro e w4 ⟨rfl, b4⟩
  have hb4 := hb3.trans (b4.mono hb3.size)
  have kz4 := kz3.below b4 kz3.lt
  have c3 := HC3.out w4 hb4
  clear c2 b4 hb3 kz3
  go_wp2_with fail
  refine c3.mono ?_
  rintro e w5 ⟨rfl, b5⟩
  have hb5 := hb4.trans (b5.mono hb4.size)
  have kz5 := kz4.below b5 kz4.lt
  have c4 := HC4.out w5 hb5
  clear c3 b5 hb4 kz4 HC2 HC3 HC4
  go_wp2_with fail
  refine c4.mono ?_
  rintro e w6 ⟨rfl, b6⟩
  have hb6 := hb5.trans (b6.mono hb5.size)
  have kz6 := kz5.below b6 kz5.lt
  have st := store_rec_new w6 ⟨k, tx, pv, nx, chgZ0, [], []⟩ memZ
  have D7 : DS w.heap.size w6.heap.size ⟨k, tx, pv, nx, chgZ0, [], []⟩ memZ w (w6.alloc (.cells (recA ⟨k, tx, pv, nx, chgZ0, [], []⟩ memZ) 51)) :=
    ⟨kz6.alloc _, Blk.new w6 _ _, hb6.trans ((below_alloc w6 _).mono hb6.size), by have := kz6.lt; omega, Nat.le_refl _, hb6.size⟩
  clear c4 b6 hb5 kz5 hb6 kz6
  go_upto_region 6 with (refine wpList_store_run rfl 51 (.tmp 6) (.tmp 47) _ _ rfl rfl rfl st ?_; clear st)
  generalize World.alloc w6 _ = w7 at *
  generalize w6.heap.size = bx at *
  dsimp only [Act.put]
  have hlo : w.heap.size < w7.heap.size := D7.z.lt
  obtain ⟨lo, hloe⟩ : ∃ lo, w7.heap.size = lo := ⟨_, rfl⟩
  rw [hloe] at hlo
  have HLO := Lib.hid hloe
  have hbxlo : bx < lo := by rw [← hloe]; exact D7.x.lt
  have HD7 := Lib.hid D7
  clear D7 hloe
  have hcz : ∀ W B, ChgAt W B chgZ0 ⟨none, 0, none, 0⟩ := fun W B => ⟨Bytes.nil _ _ _, Bytes.nil _ _ _, Nat.le_refl _, Nat.le_refl _, chgZ0_fits⟩
  rename_i K1 a1 K0 a0
  have REST1 : ∀ (u1 u7 u8 u9 u10 u11 u12 u13 u14 u15 u16 u17 u18 u19 u20 u21 u22 u23 u24 u25 u26 u27 u28 u29 u30 u31 u32 u33 u34 u35 u36 u37 u38 u39 u40 u41 u42 u43 u44 u45 u46 u47 u48 u49 u50 u51 u52 u53 u54 u55 u56 u57 u58 u59 u60 u61 u62 u63 u64 u65 u66 u67 u68 u69 u70 u71 u72 u73 u74 u75 u76 u77 u78 u79 u80 u81 u82 u83 u84 u85 u86 u87 u88 u89 u90 u91 u92 u93 u94 u95 u96 u97 u98 u99 u100 u101 u102 u103 u104 u105 u106 u107 u108 u109 u110 u111 u112 u113 u114 u115 u116 u117 u118 u119 u120 u121 u122 u123 u124 u125 u126 u127 u128 u129 u130 u131 u132 u133 u134 u135 u136 u137 u138 u139 u140 u141 u142 u143 u144 u145 u146 u147 u148 u149 u150 u151 u152 u153 u154 u155 u156 u157 u158 u159 u160 u161 u162 u163 u164 u165 u166 u167 u168 u169 u170 u171 u172 : Value) (ch : ChgP) (cm : ChgM) (wz : World), (if chgs k = true then chgQ L else chgZ0) = ch → DS w.heap.size bx ⟨k, tx, pv, nx, ch, [], []⟩ ⟨cm, none, 0, none, 0⟩ w wz → RecFrom lo wz ⟨k, tx, pv, nx, ch, [], []⟩ ⟨cm, none, 0, none, 0⟩ → lo ≤ wz.heap.size → K1 { tmps := List.toArray (.slice A N c :: u1 :: .pointer (some ⟨w.heap.size, 0, none⟩) :: .int .i64 0 :: .int .i64 0 :: .int .i64 (N : Nat) :: .pointer (some ⟨bx, 0, none⟩) :: u7 :: u8 :: u9 :: u10 :: u11 :: u12 :: u13 :: u14 :: u15 :: u16 :: u17 :: u18 :: u19 :: u20 :: u21 :: u22 :: u23 :: u24 :: u25 :: u26 :: u27 :: u28 :: u29 :: u30 :: u31 :: u32 :: u33 :: u34 :: u35 :: u36 :: u37 :: u38 :: u39 :: u40 :: u41 :: u42 :: u43 :: u44 :: u45 :: u46 :: u47 :: u48 :: u49 :: u50 :: u51 :: u52 :: u53 :: u54 :: u55 :: u56 :: u57 :: u58 :: u59 :: u60 :: u61 :: u62 :: u63 :: u64 :: u65 :: u66 :: u67 :: u68 :: u69 :: u70 :: u71 :: u72 :: u73 :: u74 :: u75 :: u76 :: u77 :: u78 :: u79 :: u80 :: u81 :: u82 :: u83 :: u84 :: u85 :: u86 :: u87 :: u88 :: u89 :: u90 :: u91 :: u92 :: u93 :: u94 :: u95 :: u96 :: u97 :: u98 :: u99 :: u100 :: u101 :: u102 :: u103 :: u104 :: u105 :: u106 :: u107 :: u108 :: u109 :: u110 :: u111 :: u112 :: u113 :: u114 :: u115 :: u116 :: u117 :: u118 :: u119 :: u120 :: u121 :: u122 :: u123 :: u124 :: u125 :: u126 :: u127 :: u128 :: u129 :: u130 :: u131 :: u132 :: u133 :: u134 :: u135 :: u136 :: u137 :: u138 :: u139 :: u140 :: u141 :: u142 :: u143 :: u144 :: u145 :: u146 :: u147 :: u148 :: u149 :: u150 :: u151 :: u152 :: u153 :: u154 :: u155 :: u156 :: u157 :: u158 :: u159 :: u160 :: u161 :: u162 :: u163 :: u164 :: u165 :: u166 :: u167 :: u168 :: u169 :: u170 :: u171 :: u172 :: []), defers := [] } wz := by
    clear a0
    intro u1 u7 u8 u9 u10 u11 u12 u13 u14 u15 u16 u17 u18 u19 u20 u21 u22 u23 u24 u25 u26 u27 u28 u29 u30 u31 u32 u33 u34 u35 u36 u37 u38 u39 u40 u41 u42 u43 u44 u45 u46 u47 u48 u49 u50 u51 u52 u53 u54 u55 u56 u57 u58 u59 u60 u61 u62 u63 u64 u65 u66 u67 u68 u69 u70 u71 u72 u73 u74 u75 u76 u77 u78 u79 u80 u81 u82 u83 u84 u85 u86 u87 u88 u89 u90 u91 u92 u93 u94 u95 u96 u97 u98 u99 u100 u101 u102 u103 u104 u105 u106 u107 u108 u109 u110 u111 u112 u113 u114 u115 u116 u117 u118 u119 u120 u121 u122 u123 u124 u125 u126 u127 u128 u129 u130 u131 u132 u133 u134 u135 u136 u137 u138 u139 u140 u141 u142 u143 u144 u145 u146 u147 u148 u149 u150 u151 u152 u153 u154 u155 u156 u157 u158 u159 u160 u161 u162 u163 u164 u165 u166 u167 u168 u169 u170 u171 u172 ch cm wz hch D F hlz
    have HCH := Lib.hid hch
    have HD := Lib.hid D
    have HF := Lib.hid F
    have q0 : wz.cell? ⟨bx, 0, none⟩ = some (.int .u8 (k : Nat)) := D.x.cell 0
    clear hch D F
    refine a1 _ _ ?_
    go_upto_region 16 with fail
    rename_i K2 a2 K3 a3
    have REST2 : ∀ (u1 u7 u8 u9 u10 u11 u12 u13 u14 u15 u16 u17 u18 u19 u20 u21 u22 u23 u24 u25 u26 u27 u28 u29 u30 u31 u32 u33 u34 u35 u36 u37 u38 u39 u40 u41 u42 u43 u44 u45 u46 u47 u48 u49 u50 u51 u52 u53 u54 u55 u56 u57 u58 u59 u60 u61 u62 u63 u64 u65 u66 u67 u68 u69 u70 u71 u72 u73 u74 u75 u76 u77 u78 u79 u80 u81 u82 u83 u84 u85 u86 u87 u88 u89 u90 u91 u92 u93 u94 u95 u96 u97 u98 u99 u100 u101 u102 u103 u104 u105 u106 u107 u108 u109 u110 u111 u112 u113 u114 u115 u116 u117 u118 u119 u120 u121 u122 u123 u124 u125 u126 u127 u128 u129 u130 u131 u132 u133 u134 u135 u136 u137 u138 u139 u140 u141 u142 u143 u144 u145 u146 u147 u148 u149 u150 u151 u152 u153 u154 u155 u156 u157 u158 u159 u160 u161 u162 u163 u164 u165 u166 u167 u168 u169 u170 u171 u172 : Value) (r : RecP) (m : RecMm) (wt : World), parseQ L = r → DS w.heap.size bx r m w wt → RecFrom lo wt r m → K2 { tmps := List.toArray (.slice A N c :: u1 :: .pointer (some ⟨w.heap.size, 0, none⟩) :: .int .i64 0 :: .int .i64 0 :: .int .i64 (N : Nat) :: .pointer (some ⟨bx, 0, none⟩) :: u7 :: u8 :: u9 :: u10 :: u11 :: u12 :: u13 :: u14 :: u15 :: u16 :: u17 :: u18 :: u19 :: u20 :: u21 :: u22 :: u23 :: u24 :: u25 :: u26 :: u27 :: u28 :: u29 :: u30 :: u31 :: u32 :: u33 :: u34 :: u35 :: u36 :: u37 :: u38 :: u39 :: u40 :: u41 :: u42 :: u43 :: u44 :: u45 :: u46 :: u47 :: u48 :: u49 :: u50 :: u51 :: u52 :: u53 :: u54 :: u55 :: u56 :: u57 :: u58 :: u59 :: u60 :: u61 :: u62 :: u63 :: u64 :: u65 :: u66 :: u67 :: u68 :: u69 :: u70 :: u71 :: u72 :: u73 :: u74 :: u75 :: u76 :: u77 :: u78 :: u79 :: u80 :: u81 :: u82 :: u83 :: u84 :: u85 :: u86 :: u87 :: u88 :: u89 :: u90 :: u91 :: u92 :: u93 :: u94 :: u95 :: u96 :: u97 :: u98 :: u99 :: u100 :: u101 :: u102 :: u103 :: u104 :: u105 :: u106 :: u107 :: u108 :: u109 :: u110 :: u111 :: u112 :: u113 :: u114 :: u115 :: u116 :: u117 :: u118 :: u119 :: u120 :: u121 :: u122 :: u123 :: u124 :: u125 :: u126 :: u127 :: u128 :: u129 :: u130 :: u131 :: u132 :: u133 :: u134 :: u135 :: u136 :: u137 :: u138 :: u139 :: u140 :: u141 :: u142 :: u143 :: u144 :: u145 :: u146 :: u147 :: u148 :: u149 :: u150 :: u151 :: u152 :: u153 :: u154 :: u155 :: u156 :: u157 :: u158 :: u159 :: u160 :: u161 :: u162 :: u163 :: u164 :: u165 :: u166 :: u167 :: u168 :: u169 :: u170 :: u171 :: u172 :: []), defers := [] } wt := by
      clear a3 q0
      intro u1 u7 u8 u9 u10 u11 u12 u13 u14 u15 u16 u17 u18 u19 u20 u21 u22 u23 u24 u25 u26 u27 u28 u29 u30 u31 u32 u33 u34 u35 u36 u37 u38 u39 u40 u41 u42 u43 u44 u45 u46 u47 u48 u49 u50 u51 u52 u53 u54 u55 u56 u57 u58 u59 u60 u61 u62 u63 u64 u65 u66 u67 u68 u69 u70 u71 u72 u73 u74 u75 u76 u77 u78 u79 u80 u81 u82 u83 u84 u85 u86 u87 u88 u89 u90 u91 u92 u93 u94 u95 u96 u97 u98 u99 u100 u101 u102 u103 u104 u105 u106 u107 u108 u109 u110 u111 u112 u113 u114 u115 u116 u117 u118 u119 u120 u121 u122 u123 u124 u125 u126 u127 u128 u129 u130 u131 u132 u133 u134 u135 u136 u137 u138 u139 u140 u141 u142 u143 u144 u145 u146 u147 u148 u149 u150 u151 u152 u153 u154 u155 u156 u157 u158 u159 u160 u161 u162 u163 u164 u165 u166 u167 u168 u169 u170 u171 u172 r m wt hr D F
      rw [hr] at hPOST
      refine a2 _ _ ?_
      go_upto_region 30 with fail
      have ld := load_rec D.x
      have ce := refencode_any r m wt.heap.size wt F.at_ (Nat.le_refl _)
      go_wp2_with (refine wpList_load_run rfl 51 (.tmp 6) _ _ rfl rfl ld ?_; clear ld)
      refine ce.mono ?_
      rintro e wy ⟨by_, he⟩
      have DY := D.below by_
      have FY := F.only (Only.of_below by_ (fun _ => False)) fun b q => q.elim
      clear ce D F by_
      rcases he with ⟨ok1, A9, c9, rfl, o9⟩ | ⟨ok1, rfl⟩
      rotate_left
      · obtain ⟨st, k2, bf⟩ := KZ.out wy DY.lo DY.z recZ memZ
        have FIN := Lib.hid (hPOST.out (.returned (.tuple #[.agg (recA recZ memZ), .int .i64 0, .int .i64 61])) _ bf (.inr ⟨HZZ.out.1, HZZ.out.2.1, HZZ.out.2.2, .inl ⟨(fun q => by rw [ok1] at q; cases q.1), rfl⟩⟩))
        have K2 := Lib.hid k2
        clear k2 bf DY FY ok1
        go_upto_region 31 with fail
        go_upto_region 32 with fail
        go_wp2_with (refine wpList_store_run rfl 51 (.tmp 2) (.tmp 170) _ _ rfl (by kernel_rfl) (by kernel_rfl) st ?_; clear st)
        refine bodyPost_ret (results_dec rfl _ _ w.heap.size _ rfl (load_whole K2.out)) rfl ?_
        exact FIN.out
      have hbE := own_bytes o9 (encL_small FY.at_.fits)
      have hbL : Bytes wy w.heap.size A L := HLT.out.below DY.lo
      have r1 := run_bytes_str (P := Tryz.prog) hbE 45 9 5 Tryz.underlying45 Tryz.underlying5 Tryz.underlying9 c9
      have r2 := run_bytes_str (P := Tryz.prog) hbL 45 9 5 Tryz.underlying45 Tryz.underlying5 Tryz.underlying9 c
      rw [HLL.out] at r2
      have hbn := strB_bne hbE.2 hbL.2
      have ld := load_rec DY.x
      by_cases hEq : encL r = L
      · have hbn2 : ((strB (encL r)).toList != (strB L).toList) = false := by rw [hbn]; simp [hEq]
        have hbn3 : ((strB (encL r)).toList == (strB L).toList) = true := by rw [bne] at hbn2; simpa using hbn2
        obtain ⟨st, k2, bf⟩ := KZ.out wy DY.lo DY.z r m
        have hF := FY.only (only_row wy w.heap.size (recA r m)) fun b q => by rw [q]; exact hlo
        have FIN := Lib.hid (hPOST.out (.returned (.tuple #[.agg (recA r m), .int .i64 (N : Nat), .int .i64 0])) _ bf (.inr ⟨HZZ.out.1, HZZ.out.2.1, HZZ.out.2.2, .inr ⟨ok1, hEq, m, rfl, hF.less (Nat.le_of_lt hlo)⟩⟩))
        have K2 := Lib.hid k2
        clear k2 bf DY FY ok1 hF hEq hbn hbE hbL o9
        go_upto_region 31 with fail
        go_upto_region 33 with fail
        go_wp2_with (first | (refine wpList_load_run rfl 51 (.tmp 6) _ _ rfl (by kernel_rfl) ld ?_; clear ld) | (refine wpList_store_run rfl 51 (.tmp 2) (.tmp 171) _ _ rfl (by kernel_rfl) (by kernel_rfl) st ?_; clear st) | fail)
        refine bodyPost_ret (results_dec rfl _ _ w.heap.size _ rfl (load_whole K2.out)) rfl ?_
        exact FIN.out
      · have hbn2 : ((strB (encL r)).toList != (strB L).toList) = true := by rw [hbn]; simp [hEq]
        have hbn3 : ((strB (encL r)).toList == (strB L).toList) = false := by rw [bne] at hbn2; simpa using hbn2
        obtain ⟨st, k2, bf⟩ := KZ.out wy DY.lo DY.z recZ memZ
        have FIN := Lib.hid (hPOST.out (.returned (.tuple #[.agg (recA recZ memZ), .int .i64 0, .int .i64 61])) _ bf (.inr ⟨HZZ.out.1, HZZ.out.2.1, HZZ.out.2.2, .inl ⟨fun q => hEq q.2, rfl⟩⟩))
        have K2 := Lib.hid k2
        clear k2 bf DY FY ok1 hEq hbn hbE hbL o9 ld
        go_upto_region 31 with fail
        go_upto_region 32 with fail
        go_wp2_with (refine wpList_store_run rfl 51 (.tmp 2) (.tmp 170) _ _ rfl (by kernel_rfl) (by kernel_rfl) st ?_; clear st)
        refine bodyPost_ret (results_dec rfl _ _ w.heap.size _ rfl (load_whole K2.out)) rfl ?_
        exact FIN.out
    clear a2
    by_cases h8 : k = 8
    · have t8 : ((k : Int) == 8) = true := by rw [beq_iff_eq]; omega
      have hch0 : Hid (ch = chgZ0) := Lib.hid (by rw [← HCH.out, if_neg (by rw [h8]; decide)])
      obtain ⟨it, hti, htz, hts, htb⟩ := info_parts tx_info
      obtain ⟨id, hdi, hdz, hds, hdb⟩ := info_parts dir_info
      obtain ⟨nt, hnt, ntb, C1⟩ := num_lit (c := c) HLT.out HLL.out (by omega) 27 1 (by omega) (by omega) 27 1 rfl rfl
      have ntb' : nt < 256 := ntb
      obtain ⟨qn, hqn⟩ : ∃ q, 28 + 21 * nt = q := ⟨_, rfl⟩
      obtain ⟨np, hnp, npb, C2⟩ := num_lit (c := c) HLT.out HLL.out (by omega) (28 + 21 * nt) 1 (by omega) (by omega) (qn : Nat) 1 (by rw [hqn]) rfl
      have npb' : np < 256 := npb
      have hPQ8 : parseQ L = ⟨k, tx, pv, nx, ch, txsQ L nt, dirsQ L (29 + 21 * nt) np⟩ := by
        rw [HPQ.out, HCH.out, if_pos h8, if_pos h8]
        unfold npQ ntQ
        rw [hnt, hnp]
      have HPQ8 := Lib.hid hPQ8
      have HQN := Lib.hid hqn
      obtain ⟨cs, hcs⟩ : ∃ cs, recA ⟨k, tx, pv, nx, ch, [], []⟩ ⟨cm, none, 0, none, 0⟩ = cs := ⟨_, rfl⟩
      have hs12 : cs.size = 12 := by rw [← hcs]; rfl
      have hs10 : cs.setIfInBounds 10 (.slice none 0 0) = cs := by rw [← hcs]; rfl
      have heA : 145 ≠ 51 := by decide
      have heD : 147 ≠ 51 := by decide
      have hzb : w.heap.size ≤ bx := HD.out.hx
      have hzw : w.heap.size ≤ wz.heap.size := HD.out.lo.size
      have T0 : TabJ w.heap.size bx cs w wz 145 4 10 (txCells (txsQ L 0)) 0 wz none 0 := ⟨HD.out.z, by rw [hs10, ← hcs]; exact HD.out.x, World.ownsRow_nil _ _ _ _, HD.out.lo, Only.refl _ _, HD.out.ne⟩
      have HCS := Lib.hid hcs
      have HS12 := Lib.hid hs12
      have R2 := Lib.hid REST2
      have EN := Lib.hid C1
      have EP := Lib.hid C2
      have vn : IntKind.i64.wrap (nt : Int) = (nt : Int) := by rw [IntKind.wrap_i64]; omega
      clear REST2 hnt ntb hnp npb hPQ8 hcs hs10 h8 hqn C1 C2
      go_wp2_with fail
      clear q0
      go_loopw [11, 12] (fun av iv wr => ∃ (i p c' : Nat) (A : Option Addr), i ≤ nt ∧ 28 + 21 * i = p ∧ av = .int .i64 (p : Nat) ∧ iv = .int .i64 (i : Nat) ∧ TabJ w.heap.size bx cs w wz 145 4 10 (txCells (txsQ L i)) i wr A c') (fun _ iv _ => nt - (intOf iv).toNat)
      case atStart => exact ⟨0, 28, 0, none, Nat.zero_le _, rfl, rfl, rfl, T0⟩
      case round =>
        clear T0
        obtain ⟨i, p, c', A', hin, hp, rfl, rfl, T⟩ := hrel
        have cn := EN.out wr T.lo
        have hp6k : p ≤ 6000 := by omega
        have HP := Lib.hid hp
        clear hp
        rcases Nat.lt_or_ge i nt with hlt | hge
        · have e1 : decide ((i : Int) < (nt : Int)) = true := by rw [decide_eq_true_iff]; omega
          obtain ⟨p4, hp4⟩ : ∃ q, p + 4 = q := ⟨_, rfl⟩
          obtain ⟨p12, hp12⟩ : ∃ q, p + 12 = q := ⟨_, rfl⟩
          obtain ⟨p20, hp20⟩ : ∃ q, p + 20 = q := ⟨_, rfl⟩
          obtain ⟨p21, hp21⟩ : ∃ q, p + 21 = q := ⟨_, rfl⟩
          obtain ⟨a1, ha1, a1b, D1⟩ := num_lit (c := c) HLT.out HLL.out (by omega) p 4 (by omega) (by omega) (p : Nat) 4 rfl rfl
          obtain ⟨a2, ha2, a2b, D2⟩ := num_lit (c := c) HLT.out HLL.out (by omega) (p + 4) 8 (by omega) (by omega) (p4 : Nat) 8 (by rw [hp4]) rfl
          obtain ⟨a3, ha3, a3b, D3⟩ := num_lit (c := c) HLT.out HLL.out (by omega) (p + 12) 8 (by omega) (by omega) (p12 : Nat) 8 (by rw [hp12]) rfl
          obtain ⟨a4, ha4, a4b, D4⟩ := num_lit (c := c) HLT.out HLL.out (by omega) (p + 20) 1 (by omega) (by omega) (p20 : Nat) 1 (by rw [hp20]) rfl
          have a1b' : a1 < 4294967296 := a1b
          have a4b' : a4 < 256 := a4b
          have HTX : Hid (txsQ L (i + 1) = txsQ L i ++ [⟨a1, a2, a3, a4⟩]) := Lib.hid (by
            rw [txsQ_succ, HP.out]
            unfold txQ
            rw [ha1, ha2, ha3, ha4])
          have s4 : IntKind.i64.wrap ((p : Int) + 4) = (p4 : Int) := by rw [IntKind.wrap_i64]; omega
          have s12 : IntKind.i64.wrap ((p : Int) + 12) = (p12 : Int) := by rw [IntKind.wrap_i64]; omega
          have s20 : IntKind.i64.wrap ((p : Int) + 20) = (p20 : Int) := by rw [IntKind.wrap_i64]; omega
          have s21 : IntKind.i64.wrap ((p : Int) + 21) = (p21 : Int) := by rw [IntKind.wrap_i64]; omega
          have v1 : (a1 : Int) % 4294967296 = (a1 : Int) := by omega
          have v1' : IntKind.u32.wrap (a1 : Int) = (a1 : Int) := by rw [IntKind.wrap_u32]; omega
          have v4 : IntKind.u8.wrap (a4 : Int) = (a4 : Int) := by rw [IntKind.wrap_u8]; omega
          have v4' : (a4 : Int) % 256 = (a4 : Int) := by omega
          have HP21 := Lib.hid hp21
          have HE1 := Lib.hid D1
          have HE2 := Lib.hid D2
          have HE3 := Lib.hid D3
          have HE4 := Lib.hid D4
          clear ha1 ha2 ha3 ha4 a1b a2b a3b a4b hp4 hp12 hp20 hp21 D1 D2 D3 D4
          go_wp2_with fail
          refine cn.mono ?_
          rintro e wq ⟨rfl, bq⟩
          have T1 := T.below bq
          have TD := T1.below (below_drew0 wq)
          have z1 : wq.cell? ⟨bx, 10, none⟩ = some (.slice A' i c') := cell_blk T1.x (by omega)
          have z0 : wq.drew.cell? ⟨bx, 10, none⟩ = some (.slice A' i c') := cell_blk TD.x (by omega)
          have D1 := HE1.out wq.drew TD.lo
          have hsz10 : 10 < cs.size := by omega
          clear cn bq T T1
          go_wp2_with fail
          go_region_law
            (first
              | (go_simp; go_at_call 85; refine D4.mono ?_; rintro e w5 ⟨rfl, b5⟩; have T5 := T4.below b5; have z5 := cell_blk T5.x hsz10; have z5a := fun o => cell_blk (T5.x.alloc o) hsz10; clear D4 z4 T4 b5)
              | (go_simp; go_at_call 85; refine D3.mono ?_; rintro e w4 ⟨rfl, b4⟩; have T4 := T3.below b4; have z4 := cell_blk T4.x hsz10; have D4 := HE4.out _ T4.lo; clear D3 z3 T3 b4)
              | (go_simp; go_at_call 85; refine D2.mono ?_; rintro e w3 ⟨rfl, b3⟩; have T3 := T2.below b3; have z3 := cell_blk T3.x hsz10; have D3 := HE3.out _ T3.lo; clear D2 z2 T2 b3)
              | (go_simp; go_at_call 85; refine D1.mono ?_; rintro e w2 ⟨rfl, b2⟩; have T2 := TD.below b2; have z2 := cell_blk T2.x hsz10; have D2 := HE2.out _ T2.lo; clear D1 z0 z1 TD b2)
              | (refine step_append_cells (by rfl) _ _ 48 (by rfl) wz.heap.size 145 it _ 4 32 Tryz.underlying48 hti htz hts htb rfl (by decide) (.slice A' i c') i (txCells (txsQ L i)) (by rfl) (kept_none (below_none ((Below.refl _ w5).alloc (Nat.le_refl _) _)) T5.own) ⟨w5.heap.size, 0, none⟩ 1 1 [.int .u32 (a1 : Nat), .int .u64 (a2 : Nat), .int .u64 (a3 : Nat), .int .u8 (a4 : Nat)] (by rfl) rfl (new_row_cells w5 _ _ (0, 0)) (by simp [Value.oneCell']) (by unfold maxLen; omega) (by omega) (Nat.le_trans T5.only.size (by rw [World.size_alloc]; exact Nat.le_succ _)) ?_; intro A7 c7 w7' ho7 hg7 hat7; have ST := T5.step heA hzb hzw _ ho7 hg7; have z7 := cell_blk ST.1 hsz10; have f7 := ST.1.frozen 10; have HS := Lib.hid ST.2; clear ST ho7 hg7 hat7 T5)
              | fail)
          all_goals
            have FIN := Lib.hid HS.out
            clear HS
            go_wp2
            go_roundw
            case rel => exact ⟨i + 1, p21, c7, A7, by omega, by have := HP.out; have := HP21.out; omega, rfl, by go_num, by rw [HTX.out, tx_snoc]; exact FIN.out⟩
            case measure => simp [intOf]; omega
        · obtain rfl : i = nt := by omega
          have e1 : decide ((i : Int) < (i : Int)) = false := by rw [decide_eq_false_iff_not]; omega
          go_wp2_with fail
          refine cn.mono ?_
          rintro e wq ⟨rfl, bq⟩
          have T1 := T.below bq
          have hpq : p = qn := by have := HP.out; have := HQN.out; omega
          subst hpq
          have cp := EP.out wq T1.lo
          obtain ⟨q1, hq1⟩ : ∃ q, p + 1 = q := ⟨_, rfl⟩
          have vp : IntKind.i64.wrap (np : Int) = (np : Int) := by rw [IntKind.wrap_i64]; omega
          have vq : IntKind.i64.wrap ((p : Int) + 1) = (q1 : Int) := by rw [IntKind.wrap_i64]; omega
          have HQ1 : Hid (29 + 21 * i = q1) := Lib.hid (by have := HP.out; omega)
          have hq6 : q1 ≤ 6001 := by omega
          clear cn bq T hq1 vn
          go_wp2_with fail
          refine cp.mono ?_
          rintro e wt ⟨rfl, bt⟩
          have T2 := T1.below bt
          obtain ⟨cs1, hcs1⟩ : ∃ cs1, cs.setIfInBounds 10 (.slice A' i c') = cs1 := ⟨_, rfl⟩
          have hs11 : cs1.setIfInBounds 11 (.slice none 0 0) = cs1 := by rw [← hcs1, ← HCS.out]; rfl
          have hsz11 : 11 < cs1.size := by
            have h1 : cs1.size = cs.size := by rw [← hcs1]; simp
            rw [h1, HS12.out]
            decide
          have U0 : TabJ w.heap.size bx cs1 w wt 147 2 11 (dirCells (dirsQ L q1 0)) 0 wt none 0 := ⟨T2.z, by rw [hs11, ← hcs1]; exact T2.x, World.ownsRow_nil _ _ _ _, T2.lo, Only.refl _ _, T2.ne⟩
          have HT2 := Lib.hid T2
          have HCS1 := Lib.hid hcs1
          have hzt : w.heap.size ≤ wt.heap.size := T2.lo.size
          clear cp bt T1 T2 hs11 hcs1 e1
          go_wp2_with fail
          go_loopw [11, 14] (fun av iv wr => ∃ (j p c' : Nat) (A : Option Addr), j ≤ np ∧ q1 + 12 * j = p ∧ av = .int .i64 (p : Nat) ∧ iv = .int .i64 (j : Nat) ∧ TabJ w.heap.size bx cs1 w wt 147 2 11 (dirCells (dirsQ L q1 j)) j wr A c') (fun _ iv _ => np - (intOf iv).toNat)
          case atStart => exact ⟨0, q1, 0, none, Nat.zero_le _, Nat.add_zero _, rfl, rfl, U0⟩
          case round =>
            clear U0 vq
            obtain ⟨j, p', d', D', hjn, hp, rfl, rfl, T⟩ := hrel
            rename World => wv
            have hp9k : p' ≤ 9100 := by omega
            have HP' := Lib.hid hp
            clear hp
            rcases Nat.lt_or_ge j np with hlt | hge
            · have e1 : decide ((j : Int) < (np : Int)) = true := by rw [decide_eq_true_iff]; omega
              obtain ⟨p4, hp4⟩ : ∃ q, p' + 4 = q := ⟨_, rfl⟩
              obtain ⟨p12, hp12⟩ : ∃ q, p' + 12 = q := ⟨_, rfl⟩
              obtain ⟨a1, ha1, a1b, D1⟩ := num_lit (c := c) HLT.out HLL.out (by omega) p' 4 (by omega) (by omega) (p' : Nat) 4 rfl rfl
              obtain ⟨a2, ha2, a2b, D2⟩ := num_lit (c := c) HLT.out HLL.out (by omega) (p' + 4) 8 (by omega) (by omega) (p4 : Nat) 8 (by rw [hp4]) rfl
              have a1b' : a1 < 4294967296 := a1b
              have HTX : Hid (dirsQ L q1 (j + 1) = dirsQ L q1 j ++ [⟨a1, a2⟩]) := Lib.hid (by
                rw [dirsQ_succ, HP'.out]
                unfold dirQ
                rw [ha1, ha2])
              have s4 : IntKind.i64.wrap ((p' : Int) + 4) = (p4 : Int) := by rw [IntKind.wrap_i64]; omega
              have s12 : IntKind.i64.wrap ((p' : Int) + 12) = (p12 : Int) := by rw [IntKind.wrap_i64]; omega
              have v1 : (a1 : Int) % 4294967296 = (a1 : Int) := by omega
              have v1' : IntKind.u32.wrap (a1 : Int) = (a1 : Int) := by rw [IntKind.wrap_u32]; omega
              have HP12 := Lib.hid hp12
              have HE2 := Lib.hid D2
              have TD := T.below (below_drew0 wv)
              have z1 : wv.cell? ⟨bx, 11, none⟩ = some (.slice D' j d') := cell_blk T.x hsz11
              have z0 : wv.drew.cell? ⟨bx, 11, none⟩ = some (.slice D' j d') := cell_blk TD.x hsz11
              have D1 := D1 wv.drew TD.lo
              clear ha1 ha2 a1b a2b hp4 hp12 D2 T
              go_wp2_with fail
              go_region_law
                (first
                  | (go_simp; go_at_call 85; refine D2.mono ?_; rintro e w5 ⟨rfl, b5⟩; have T5 := T2.below b5; have z5 := cell_blk T5.x hsz11; have z5a := fun o => cell_blk (T5.x.alloc o) hsz11; clear D2 z2 T2 b5)
                  | (go_simp; go_at_call 85; refine D1.mono ?_; rintro e w2 ⟨rfl, b2⟩; have T2 := TD.below b2; have z2 := cell_blk T2.x hsz11; have D2 := HE2.out _ T2.lo; clear D1 z0 z1 TD b2)
                  | (refine step_append_cells (by rfl) _ _ 49 (by rfl) wt.heap.size 147 id _ 2 16 Tryz.underlying49 hdi hdz hds hdb rfl (by decide) (.slice D' j d') j (dirCells (dirsQ L q1 j)) (by rfl) (kept_none (below_none ((Below.refl _ w5).alloc (Nat.le_refl _) _)) T5.own) ⟨w5.heap.size, 0, none⟩ 1 1 [.int .u32 (a1 : Nat), .int .u64 (a2 : Nat)] (by rfl) rfl (new_row_cells w5 _ _ (0, 0)) (by simp [Value.oneCell']) (by unfold maxLen; omega) (by omega) (Nat.le_trans T5.only.size (by rw [World.size_alloc]; exact Nat.le_succ _)) ?_; intro A7 c7 w7' ho7 hg7 hat7; have ST := T5.step heD hzb hzt _ ho7 hg7; have z7 := cell_blk ST.1 hsz11; have f7 := ST.1.frozen 11; have HS := Lib.hid ST.2; clear ST ho7 hg7 hat7 T5)
                  | fail)
              all_goals
                have FIN := Lib.hid HS.out
                clear HS
                go_wp2
                go_roundw
                case rel => exact ⟨j + 1, p12, c7, A7, by omega, by have := HP'.out; have := HP12.out; omega, rfl, by go_num, by rw [HTX.out, dir_snoc]; exact FIN.out⟩
                case measure => simp [intOf]; omega
            · obtain rfl : j = np := by omega
              have e1 : decide ((j : Int) < (j : Int)) = false := by rw [decide_eq_false_iff_not]; omega
              have ex : cs1.setIfInBounds 11 (.slice D' j d') = recA ⟨k, tx, pv, nx, ch, txsQ L i, dirsQ L q1 j⟩ ⟨cm, A', c', D', d'⟩ := by
                rw [← HCS1.out, ← HCS.out]
                simp only [recA, txsQ_length, dirsQ_length]
                rfl
              have hOO : Only (fun b => b = bx) wz wv := HT2.out.only.trans T.only fun b q => .inl q
              have o3 := T.only.own HT2.out.own fun b hb e => by
                have h1 := (HT2.out.own.lt b hb).1
                have h2 := HD.out.x.lt
                omega
              have hlt2 : lo ≤ wt.heap.size := Nat.le_trans hlz HT2.out.only.size
              have F : RecFrom lo wv ⟨k, tx, pv, nx, ch, txsQ L i, dirsQ L q1 j⟩ ⟨cm, A', c', D', d'⟩ := fun W hW =>
                ⟨((HF.out.only hOO fun b q => by rw [q]; exact hbxlo) W hW).chg, own_txs (own_from o3 hlz hW), own_dirs (own_from T.own hlt2 hW),
                  ⟨HPF.out.kind' HPQ.out, HPF.out.txn' HPQ.out, HPF.out.prev' HPQ.out, HPF.out.next' HPQ.out, (HF.out.at_).fits.chg, (fun x hx => by
                    obtain ⟨n, -, rfl⟩ := List.mem_map.1 hx
                    exact txQ_fits HLT.out.2 _), (fun x hx => by
                    obtain ⟨n, -, rfl⟩ := List.mem_map.1 hx
                    exact dirQ_fits HLT.out.2 _)⟩⟩
              have D : DS w.heap.size bx ⟨k, tx, pv, nx, ch, txsQ L i, dirsQ L q1 j⟩ ⟨cm, A', c', D', d'⟩ w wv := ⟨T.z, by rw [← ex]; exact T.x, T.lo, T.ne, HD.out.hz, HD.out.hx⟩
              have FIN := Lib.hid (And.intro (show parseQ L = ⟨k, tx, pv, nx, ch, txsQ L i, dirsQ L q1 j⟩ by rw [HPQ8.out, HQ1.out]) (And.intro D F))
              clear ex hOO o3 F D T hge
              go_wp2
              exact R2.out _ _ _ _ _ _ _ _ _ _ _ _ _ _ _ _ _ _ _ _ _ _ _ _ _ _ _ _ _ _ _ _ _ _ _ _ _ _ _ _ _ _ _ _ _ _ _ _ _ _ _ _ _ _ _ _ _ _ _ _ _ _ _ _ _ _ _ _ _ _ _ _ _ _ _ _ _ _ _ _ _ _ _ _ _ _ _ _ _ _ _ _ _ _ _ _ _ _ _ _ _ _ _ _ _ _ _ _ _ _ _ _ _ _ _ _ _ _ _ _ _ _ _ _ _ _ _ _ _ _ _ _ _ _ _ _ _ _ _ _ _ _ _ _ _ _ _ _ _ _ _ _ _ _ _ _ _ _ _ _ _ _ _ _ _ _ _ _ _ _ FIN.out.1 FIN.out.2.1 FIN.out.2.2
    · have t8 : ((k : Int) == 8) = false := by rw [beq_eq_false_iff_ne]; omega
      have hPQ : parseQ L = ⟨k, tx, pv, nx, ch, [], []⟩ := by
        rw [HPQ.out, HCH.out, if_neg h8, if_neg h8]
      have R2 := Lib.hid REST2
      have FIN := Lib.hid hPQ
      clear REST2 h8 hPQ
      go_wp2
      exact R2.out _ _ _ _ _ _ _ _ _ _ _ _ _ _ _ _ _ _ _ _ _ _ _ _ _ _ _ _ _ _ _ _ _ _ _ _ _ _ _ _ _ _ _ _ _ _ _ _ _ _ _ _ _ _ _ _ _ _ _ _ _ _ _ _ _ _ _ _ _ _ _ _ _ _ _ _ _ _ _ _ _ _ _ _ _ _ _ _ _ _ _ _ _ _ _ _ _ _ _ _ _ _ _ _ _ _ _ _ _ _ _ _ _ _ _ _ _ _ _ _ _ _ _ _ _ _ _ _ _ _ _ _ _ _ _ _ _ _ _ _ _ _ _ _ _ _ _ _ _ _ _ _ _ _ _ _ _ _ _ _ _ _ _ _ _ _ _ _ _ _ FIN.out HD.out HF.out
  clear a1
  have hc := chgs_cases k
  have q0 : w7.cell? ⟨bx, 0, none⟩ = some (.int .u8 (k : Nat)) := HD7.out.x.cell 0
  have R1 := Lib.hid REST1
  clear REST1
  go_cut [55] (fun v wx => v = .bool (chgs k) ∧ w7 = wx)
  case first =>
    rcases hc with ⟨rfl, e⟩ | ⟨e1, rfl, e⟩ | ⟨e1, e2, e⟩
    · have HE := Lib.hid e
      clear e
      go_wp2
      go_meet
      case rel => exact ⟨rfl, rfl⟩
    · have HE := Lib.hid e
      clear e e1
      go_wp2
      go_meet
      case rel => exact ⟨rfl, rfl⟩
    · have t1 : ((k : Int) == 2) = false := by rw [beq_eq_false_iff_ne]; omega
      have t2 : ((k : Int) == 3) = false := by rw [beq_eq_false_iff_ne]; omega
      have HE := Lib.hid e
      clear e
      go_wp2
      go_meet
      case rel => exact ⟨by rw [HE.out], rfl⟩
  case rest =>
    obtain ⟨rfl, rfl⟩ := hcut
    clear hc q0
    rcases hch : chgs k with _ | _
    · have hif : (if chgs k = true then chgQ L else chgZ0) = chgZ0 := by rw [hch]; rfl
      have hz0 : Hid (RecP.Fits ⟨k, tx, pv, nx, chgZ0, [], []⟩) := Lib.hid ⟨HPF.out.kind' HPQ.out, HPF.out.txn' HPQ.out, HPF.out.prev' HPQ.out, HPF.out.next' HPQ.out, chgZ0_fits, (fun x hx => by cases hx), (fun x hx => by cases hx)⟩
      have F : RecFrom lo w7 ⟨k, tx, pv, nx, chgZ0, [], []⟩ memZ := fun W hW => ⟨hcz _ _, (fun j hj => absurd hj (by simp)), (fun j hj => absurd hj (by simp)), hz0.out⟩
      have FIN := Lib.hid (And.intro hif (And.intro HD7.out (And.intro F (Nat.le_of_eq HLO.out.symm))))
      clear hch hif F
      go_wp2
      exact R1.out _ _ _ _ _ _ _ _ _ _ _ _ _ _ _ _ _ _ _ _ _ _ _ _ _ _ _ _ _ _ _ _ _ _ _ _ _ _ _ _ _ _ _ _ _ _ _ _ _ _ _ _ _ _ _ _ _ _ _ _ _ _ _ _ _ _ _ _ _ _ _ _ _ _ _ _ _ _ _ _ _ _ _ _ _ _ _ _ _ _ _ _ _ _ _ _ _ _ _ _ _ _ _ _ _ _ _ _ _ _ _ _ _ _ _ _ _ _ _ _ _ _ _ _ _ _ _ _ _ _ _ _ _ _ _ _ _ _ _ _ _ _ _ _ _ _ _ _ _ _ _ _ _ _ _ _ _ _ _ _ _ _ _ _ _ _ _ _ _ _ FIN.out.1 FIN.out.2.1 FIN.out.2.2.1 FIN.out.2.2.2
    · have HIF : Hid ((if chgs k = true then chgQ L else chgZ0) = chgQ L) := Lib.hid (if_pos hch)
      obtain ⟨pg, hpg, pgb, C1⟩ := num_lit (c := c) HLT.out HLL.out (by omega) 27 4 (by omega) (by omega) 27 4 rfl rfl
      obtain ⟨sl, hsl, slb, C2⟩ := num_lit (c := c) HLT.out HLL.out (by omega) 31 2 (by omega) (by omega) 31 2 rfl rfl
      obtain ⟨fl, hfl, flb, C3⟩ := num_lit (c := c) HLT.out HLL.out (by omega) 33 1 (by omega) (by omega) 33 1 rfl rfl
      obtain ⟨k1, hk1, k1b, C4⟩ := num_lit (c := c) HLT.out HLL.out (by omega) 34 1 (by omega) (by omega) 34 1 rfl rfl
      have pgb' : pg < 4294967296 := pgb
      have slb' : sl < 65536 := slb
      have flb' : fl < 256 := flb
      have k1b' : k1 < 256 := k1b
      obtain ⟨q35, h35⟩ : ∃ q, 35 + k1 = q := ⟨_, rfl⟩
      obtain ⟨q36, h36⟩ : ∃ q, 36 + k1 = q := ⟨_, rfl⟩
      obtain ⟨bf, hbf, bfl, bfs, C5⟩ := part_lit (c := c) HLT.out HLL.out (by omega) 35 k1 (by omega) (by omega) 35 rfl
      obtain ⟨k2, hk2, k2b, C6⟩ := num_lit (c := c) HLT.out HLL.out (by omega) (35 + k1) 1 (by omega) (by omega) (q35 : Nat) 1 (by rw [h35]) rfl
      have k2b' : k2 < 256 := k2b
      obtain ⟨af, haf, afl, afs, C7⟩ := part_lit (c := c) HLT.out HLL.out (by omega) (36 + k1) k2 (by omega) (by omega) (q36 : Nat) (by rw [h36])
      obtain ⟨f2, hf2⟩ : ∃ f2, fl % 2 = f2 := ⟨_, rfl⟩
      obtain ⟨f3, hf3⟩ : ∃ f3, fl / 2 = f3 := ⟨_, rfl⟩
      obtain ⟨f4, hf4⟩ : ∃ f4, f3 % 2 = f4 := ⟨_, rfl⟩
      obtain ⟨had, hhad⟩ : ∃ b, (f2 == 1) = b := ⟨_, rfl⟩
      obtain ⟨has, hhas⟩ : ∃ b, (f4 == 1) = b := ⟨_, rfl⟩
      have HCQ : Hid (chgQ L = ⟨pg, sl, had, has, bf, af⟩) := Lib.hid (by
        unfold chgQ mQ kQ
        rw [hpg, hsl, hfl, hk1, hk2, hbf, haf, hf2, hf3, hf4, hhad, hhas])
      have x1 : Int.tmod (fl : Int) 2 = (f2 : Int) := by rw [Int.tmod_eq_emod_of_nonneg (by omega)]; omega
      have x1' : (fl : Int) % 2 = (f2 : Int) := by omega
      have x2 : Int.tdiv (fl : Int) 2 = (f3 : Int) := by rw [Int.tdiv_eq_ediv_of_nonneg (by omega)]; omega
      have x2' : (fl : Int) / 2 = (f3 : Int) := by omega
      have x3 : Int.tmod (f3 : Int) 2 = (f4 : Int) := by rw [Int.tmod_eq_emod_of_nonneg (by omega)]; omega
      have x3' : (f3 : Int) % 2 = (f4 : Int) := by omega
      have x4 : ((f2 : Int) == 1) = had := by rw [← hhad]; exact beq_nat f2 1
      have x5 : ((f4 : Int) == 1) = has := by rw [← hhas]; exact beq_nat f4 1
      have x4n := hhad
      have x5n := hhas
      have y1 : IntKind.u64.wrap (f2 : Int) = (f2 : Int) := by rw [IntKind.wrap_u64]; omega
      have y2 : IntKind.u64.wrap (f3 : Int) = (f3 : Int) := by rw [IntKind.wrap_u64]; omega
      have y3 : IntKind.u64.wrap (f4 : Int) = (f4 : Int) := by rw [IntKind.wrap_u64]; omega
      have y4 : IntKind.u32.wrap (pg : Int) = (pg : Int) := by rw [IntKind.wrap_u32]; omega
      have y4' : (pg : Int) % 4294967296 = (pg : Int) := by omega
      have y5 : IntKind.u16.wrap (sl : Int) = (sl : Int) := by rw [IntKind.wrap_u16]; omega
      have y5' : (sl : Int) % 65536 = (sl : Int) := by omega
      have y6 : IntKind.i64.wrap (k1 : Int) = (k1 : Int) := by rw [IntKind.wrap_i64]; omega
      have y7 : IntKind.i64.wrap (k2 : Int) = (k2 : Int) := by rw [IntKind.wrap_i64]; omega
      have y8 : IntKind.i64.wrap (35 + (k1 : Int)) = (q35 : Int) := by rw [IntKind.wrap_i64]; omega
      have y9 : IntKind.i64.wrap (36 + (k1 : Int)) = (q36 : Int) := by rw [IntKind.wrap_i64]; omega
      have hFit := chgQ_fits HLT.out.2
      rw [HCQ.out] at hFit
      have HFT := Lib.hid hFit
      have HBF := Lib.hid (And.intro bfl afl)
      have E2 := Lib.hid C2
      have E3 := Lib.hid C3
      have E4 := Lib.hid C4
      have E5 := Lib.hid C5
      have E6 := Lib.hid C6
      have E7 := Lib.hid C7
      have D7 := HD7.out
      have c1 := C1 w7 D7.lo
      have hlz : lo ≤ w7.heap.size := Nat.le_of_eq HLO.out.symm
      have hbxlo : bx < lo := by rw [← HLO.out]; exact D7.x.lt
      clear hpg hsl hfl hk1 hk2 hbf haf hf2 hf3 hf4 hhad hhas hch h35 h36 bfl afl bfs afs pgb slb flb k1b k2b C1 C2 C3 C4 C5 C6 C7 hFit hcz HD7
      go_wp2_with fail
      refine c1.mono ?_
      rintro e w8 ⟨rfl, b8⟩
      have D8 := D7.below b8
      have hl8 := Nat.le_trans hlz b8.size
      have c2 := E2.out w8 D8.lo
      clear c1 b8 D7 hlz y4 y4' E2
      go_wp2_with fail
      refine c2.mono ?_
      rintro e w9 ⟨rfl, b9⟩
      have D9 := D8.below b9
      have hl9 := Nat.le_trans hl8 b9.size
      have st := store_chg_fresh w9 ⟨pg, sl, false, false, [], []⟩ ⟨none, 0, none, 0⟩
      have ba := below_alloc w9 (.cells (chgV ⟨pg, sl, false, false, [], []⟩ ⟨none, 0, none, 0⟩) 47)
      have D10 := D9.below ba
      have kc : Blk (w9.alloc (.cells (chgV ⟨pg, sl, false, false, [], []⟩ ⟨none, 0, none, 0⟩) 47)) w9.heap.size 47 (chgV ⟨pg, sl, false, false, [], []⟩ ⟨none, 0, none, 0⟩) := Blk.new w9 _ _
      have n1 : w9.heap.size ≠ w.heap.size := by have := D9.z.lt; omega
      have n2 : w9.heap.size ≠ bx := by have := D9.x.lt; omega
      have n3 : w.heap.size ≤ w9.heap.size := D9.lo.size
      clear c2 b9 D8 hl8 D9 ba y5 y5'
      go_upto_region 8 with (refine wpList_store_run rfl 47 (.tmp 7) (.tmp 62) _ _ rfl (by kernel_rfl) (by kernel_rfl) st ?_; clear st)
      generalize World.alloc w9 _ = w10 at *
      generalize w9.heap.size = gc at *
      dsimp only [Act.put]
      have c3 := E3.out w10 D10.lo
      go_wp2_with fail
      refine c3.mono ?_
      rintro e w11 ⟨rfl, b11⟩
      have D11 := D10.below b11
      have k11 := kc.below b11 kc.lt
      have p2 : w11.cell? ⟨gc, 2, none⟩ = some (.bool false) := k11.cell 2
      have pf := k11.frozen 2
      have k12 : Blk (w11.setCell ⟨gc, 2, none⟩ (.bool had)) gc 47 (chgV ⟨pg, sl, had, false, [], []⟩ ⟨none, 0, none, 0⟩) := k11.set_ 2 (.bool had)
      have D12 := D11.far n1 n2 n3 2 (.bool had)
      clear c3 b11 D10 kc D11 k11 E3
      go_upto_region 10 with fail
      generalize World.setCell _ _ _ = w12 at *
      have p3 : w12.cell? ⟨gc, 3, none⟩ = some (.bool false) := k12.cell 3
      have pf3 := k12.frozen 3
      have k13 : Blk (w12.setCell ⟨gc, 3, none⟩ (.bool has)) gc 47 (chgV ⟨pg, sl, had, has, [], []⟩ ⟨none, 0, none, 0⟩) := k12.set_ 3 (.bool has)
      have D13 := D12.far n1 n2 n3 3 (.bool has)
      clear D12 k12 x1 x1' x4 x4n p2 pf y1
      go_upto_region 11 with fail
      generalize World.setCell _ _ _ = w13 at *
      have c4 := E4.out w13 D13.lo
      clear p3 pf3 x2 x2' x3 x3' x5 x5n y2 y3
      go_wp2_with fail
      refine c4.mono ?_
      rintro e w14 ⟨rfl, b14⟩
      have D14 := D13.below b14
      have k14 := k13.below b14 k13.lt
      have c5 := E5.out w14 D14.lo
      clear c4 b14 D13 k13 y6 E4
      go_wp2_with fail
      refine c5.mono ?_
      rintro e w15 ⟨A5, c5', rfl, o5, b15⟩
      have D15 := D14.below b15
      have k15 := k14.below b15 k14.lt
      have hgl := k14.lt
      have p4 : w15.cell? ⟨gc, 4, none⟩ = some (.slice none 0 0) := k15.cell 4
      have pf4 := k15.frozen 4
      have e16 : (chgV ⟨pg, sl, had, has, [], []⟩ ⟨none, 0, none, 0⟩).setIfInBounds 4 (.slice A5 k1 c5') = chgV ⟨pg, sl, had, has, bf, []⟩ ⟨A5, c5', none, 0⟩ := by rw [← HBF.out.1]; rfl
      have k16 := k15.set_ 4 (.slice A5 k1 c5')
      rw [e16] at k16
      have D16 := D15.far n1 n2 n3 4 (.slice A5 k1 c5')
      have o6 := own_set o5 hgl 4 (.slice A5 k1 c5')
      have hbase : lo ≤ w14.heap.size := by omega
      clear c5 b15 D14 k14 D15 k15 o5 e16 E5
      go_upto_region 13 with fail
      generalize World.setCell _ _ _ = w16 at *
      have c6 := E6.out w16 D16.lo
      clear p4 pf4
      go_wp2_with fail
      refine c6.mono ?_
      rintro e w17 ⟨rfl, b17⟩
      have D17 := D16.below b17
      have k17 := k16.below b17 k16.lt
      have o17 := kept_none (below_none b17) o6
      have c7 := E7.out w17 D17.lo
      clear c6 b17 D16 k16 o6 y8 E6
      go_wp2_with fail
      refine c7.mono ?_
      rintro e w18 ⟨A7, c7', rfl, o18, b18⟩
      have D18 := D17.below b18
      have k18 := k17.below b18 k17.lt
      have hgl7 := k17.lt
      have o18a := kept_none (below_none b18) o17
      have p5 : w18.cell? ⟨gc, 5, none⟩ = some (.slice none 0 0) := k18.cell 5
      have pf5 := k18.frozen 5
      have e19 : (chgV ⟨pg, sl, had, has, bf, []⟩ ⟨A5, c5', none, 0⟩).setIfInBounds 5 (.slice A7 k2 c7') = chgV ⟨pg, sl, had, has, bf, af⟩ ⟨A5, c5', A7, c7'⟩ := by rw [← HBF.out.2]; rfl
      have k19 := k18.set_ 5 (.slice A7 k2 c7')
      rw [e19] at k19
      have D19 := D18.far n1 n2 n3 5 (.slice A7 k2 c7')
      have o19 := own_set o18a hgl 5 (.slice A7 k2 c7')
      have o19' := own_set o18 hgl7 5 (.slice A7 k2 c7')
      have hbase7 : lo ≤ w17.heap.size := by omega
      clear c7 b18 D17 k17 D18 k18 o17 o18 o18a e19 E7 y7 y9
      go_upto_region 15 with fail
      generalize World.setCell _ _ _ = w19 at *
      have ld := load_chg0 k19
      have st := store_chg_mid D19.x ⟨pg, sl, had, has, bf, af⟩ ⟨A5, c5', A7, c7'⟩
      have D20 := D19.chg ⟨pg, sl, had, has, bf, af⟩ ⟨A5, c5', A7, c7'⟩
      have hO := setCells_only w19 bx (chgV ⟨pg, sl, had, has, bf, af⟩ ⟨A5, c5', A7, c7'⟩).toList 4
      have o20 := hO.own o19 fun k hk e => by have := (o19.lt k hk).1; omega
      have o20' := hO.own o19' fun k hk e => by have := (o19'.lt k hk).1; omega
      have F : RecFrom lo (w19.setCells bx 4 (chgV ⟨pg, sl, had, has, bf, af⟩ ⟨A5, c5', A7, c7'⟩).toList) ⟨k, tx, pv, nx, ⟨pg, sl, had, has, bf, af⟩, [], []⟩ ⟨⟨A5, c5', A7, c7'⟩, none, 0, none, 0⟩ := fun W hW =>
        ⟨⟨own_bytes (own_from o20 hbase hW) HFT.out.2.2.1, own_bytes (own_from o20' hbase7 hW) HFT.out.2.2.2, by rw [HBF.out.1]; exact own_cap' o20, by rw [HBF.out.2]; exact own_cap' o20', HFT.out⟩, (fun j hj => absurd hj (by simp)), (fun j hj => absurd hj (by simp)),
          ⟨HPF.out.kind' HPQ.out, HPF.out.txn' HPQ.out, HPF.out.prev' HPQ.out, HPF.out.next' HPQ.out, HFT.out, (fun x hx => by cases hx), (fun x hx => by cases hx)⟩⟩
      have FIN := Lib.hid (And.intro (HIF.out.trans HCQ.out) (And.intro D20 (And.intro F (Nat.le_trans hl9 (Nat.le_of_lt (Nat.lt_of_lt_of_le k19.lt hO.size))))))
      clear D19 D20 F o19 o19' o20 o20' hO k19 p5 pf5
      go_wp2_with (first | (refine wpList_load_run rfl 47 (.tmp 7) _ _ rfl (by kernel_rfl) ld ?_; clear ld) | (refine wpList_store_run rfl 47 (.tmp 93) (.tmp 92) _ _ rfl (by kernel_rfl) (by kernel_rfl) st ?_; clear st) | fail)
      exact R1.out _ _ _ _ _ _ _ _ _ _ _ _ _ _ _ _ _ _ _ _ _ _ _ _ _ _ _ _ _ _ _ _ _ _ _ _ _ _ _ _ _ _ _ _ _ _ _ _ _ _ _ _ _ _ _ _ _ _ _ _ _ _ _ _ _ _ _ _ _ _ _ _ _ _ _ _ _ _ _ _ _ _ _ _ _ _ _ _ _ _ _ _ _ _ _ _ _ _ _ _ _ _ _ _ _ _ _ _ _ _ _ _ _ _ _ _ _ _ _ _ _ _ _ _ _ _ _ _ _ _ _ _ _ _ _ _ _ _ _ _ _ _ _ _ _ _ _ _ _ _ _ _ _ _ _ _ _ _ _ _ _ _ _ _ _ _ _ _ _ _ FIN.out.1 FIN.out.2.1 FIN.out.2.2.1 FIN.out.2.2.2
end Go.Proofs.YtkganajbilnanaaGreat
