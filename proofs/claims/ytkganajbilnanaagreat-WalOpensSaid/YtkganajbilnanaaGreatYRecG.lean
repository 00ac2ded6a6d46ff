/- rec: the reader's tables. Conditions: as stated. -/
import Derived.Test.YtkganajbilnanaaGreatYRecC
set_option linter.unusedVariables false
set_option linter.unusedSimpArgs false
namespace Go.Proofs.YtkganajbilnanaaGreat
open Go.ChangeShapes Go.WideShapes Go.ChangeAt Go.RowKit
open NumMath
set_option maxRecDepth 20000
def txCells (t : List TxP) : List Value := t.flatMap fun x => (txV x).toList
def dirCells (t : List DirP) : List Value := t.flatMap fun x => (dirV x).toList
def TabPost (B p bx : Nat) (cs : Array Value) (W0 : World) (l : List Nat) (e : Ending) (w' : World) : Prop :=
  (∃ t d r, tabP l = some ((t, d), r) ∧ ∃ A3 c3 A4 c4, e = .returned (.tuple #[]) ∧ Blk w' bx 51 ((cs.setIfInBounds 10 (.slice A3 t.length c3)).setIfInBounds 11 (.slice A4 d.length c4)) ∧
    w'.ownsRow W0.heap.size 145 4 (.slice A3 t.length c3) t.length (txCells t) ∧ w'.ownsRow W0.heap.size 147 2 (.slice A4 d.length c4) d.length (dirCells d) ∧
    (∀ x ∈ t, x.Fits) ∧ (∀ x ∈ d, x.Fits) ∧ RdE B p w' r w' ∧ Only (fun b => b = p ∨ b = bx) W0 w') ∨
  (tabP l = none ∧ e = .panicked BadP ∧ (∃ cs', cs'.size = cs.size ∧ Blk w' bx 51 cs') ∧ Only (fun b => b = p ∨ b = bx) W0 w')
theorem tx_snoc (t : List TxP) (x : TxP) : txCells (t ++ [x]) = txCells t ++ (txV x).toList := by simp [txCells]
theorem dir_snoc (t : List DirP) (x : DirP) : dirCells (t ++ [x]) = dirCells t ++ (dirV x).toList := by simp [dirCells]
theorem cell_blk {w : World} {g : Nat} {t : TypeId} {cs : Array Value} {i : Nat} {v : Value} (h : Blk w g t (cs.setIfInBounds i v)) (hi : i < cs.size) : w.cell? ⟨g, i, none⟩ = some v := by
  rw [h.cell i]
  simp [hi]
set_option maxHeartbeats 16000000 in
theorem rtables_any {B p bx : Nat} {cs : Array Value} {w : World} {l : List Nat} (h : RdE B p w l w) (hx : Blk w bx 51 cs) (h10 : cs[10]? = some (.slice none 0 0)) (h11 : cs[11]? = some (.slice none 0 0)) (hB : B ≤ bx) (hl : l.length ≤ 100000) :
    Calls Tryz.prog 118 #[.pointer (some ⟨p, 0, none⟩), .pointer (some ⟨bx, 0, none⟩)] w (TabPost B p bx cs w l) := by
  obtain ⟨n, l1, hn, hl1, nb, s1, k1, P1, P1n, C1⟩ := num_step 1 (by omega) l h.small hl
  obtain ⟨it, hti, htz, hts, htb⟩ := info_parts tx_info
  obtain ⟨id, hdi, hdz, hds, hdb⟩ := info_parts dir_info
  have hsz : 11 < cs.size := (Array.getElem?_eq_some_iff.1 h11).1
  have hsz10 : 10 < cs.size := by omega
  have heR : 145 ≠ 51 := by decide
  have heR2 : 145 ≠ 170 := by decide
  have heD : 147 ≠ 51 := by decide
  have heD2 : 147 ≠ 170 := by decide
  have hxp : bx ≠ p := by obtain ⟨v, hv⟩ := h.blk; exact hx.ne_ hv (by decide)
  have hbxw := hx.lt
  have hBw : B ≤ w.heap.size := Nat.le_trans h.bp (Nat.le_of_lt h.plt)
  have ct := C1 B p w w h
  have PAN : Hid (∀ W cs', cs'.size = cs.size → Blk W bx 51 cs' → Only (fun b => b = p ∨ b = bx) w W → tabP l = none → TabPost B p bx cs w l (.panicked BadP) W) := Lib.hid fun W cs' c d a b => .inr ⟨b, rfl, ⟨cs', c, d⟩, a⟩
  have hs10 : cs.setIfInBounds 10 (.slice none 0 0) = cs := by
    apply Array.ext_getElem?
    intro j
    rw [Array.getElem?_setIfInBounds]
    split
    · subst_vars
      rw [h10]
    · rfl
  clear C1 h hn hl1
  have nb' : n < 256 := nb
  go_enter Tryz.func118, Tryz.ntmps118
  go_wp2_with fail
  refine ct.mono ?_
  rintro e w2 (⟨hm1, rfl, h2⟩ | ⟨hm1, rfl, h2⟩)
  rotate_left
  · exact ⟨rfl, PAN.out _ cs rfl (hx.only h2.only hxp) (h2.only.mono fun b q => .inl (.inl q)) (by unfold tabP; rw [P1n hm1]; rfl)⟩
  have HP1 : Hid (tabP l = (txsK n l1).bind fun t => (numP 1 t.2).bind fun m => (dirsK m.1 m.2).bind fun d => some ((t.1, d.1), d.2)) := Lib.hid (by unfold tabP; rw [P1 hm1]; rfl)
  have T0 : TabI B p bx cs w 145 4 10 (txCells []) 0 l1 w2 none 0 := ⟨by rw [hs10]; exact hx.only h2.only hxp, World.ownsRow_nil _ _ _ _, h2.here, h2.only.mono fun b q => .inl (.inl q)⟩
  clear ct P1 P1n h2 hx hs10 h10
  go_wp2_with fail
  go_loopw [6] (fun iv wr => ∃ k : Nat, k ≤ n ∧ iv = .int .u64 k ∧ ∃ xs lq A c, txsK k l1 = some (xs, lq) ∧ xs.length = k ∧ TabI B p bx cs w 145 4 10 (txCells xs) k lq wr A c ∧ (∀ x ∈ xs, x.Fits) ∧ lq.length ≤ 100000) (fun iv _ => n - (intOf iv).toNat)
  case atStart => exact ⟨0, Nat.zero_le _, rfl, [], l1, none, 0, rfl, rfl, T0, (fun x hx => by cases hx), k1⟩
  case round =>
    clear T0
    obtain ⟨k, hkn, rfl, xs, lq, A, c, hK, hxl, T, hfx, hlq⟩ := hrel
    rcases Nat.lt_or_ge k n with hlt | hge
    · have e1 : decide ((k : Int) < (n : Int)) = true := by rw [decide_eq_true_iff]; omega
      obtain ⟨a1, l2, -, -, b1, s2, k2, Q1, N1, C1⟩ := num_step 4 (by omega) lq T.rd.small hlq
      obtain ⟨a2, l3, -, -, b2, s3, k3, Q2, N2, C2⟩ := num_step 8 (by omega) l2 s2 k2
      obtain ⟨a3, l4, -, -, b3, s4, k4, Q3, N3, C3⟩ := num_step 8 (by omega) l3 s3 k3
      obtain ⟨a4, l5, -, -, b4, s5, k5, Q4, N4, C4⟩ := num_step 1 (by omega) l4 s4 k4
      have v1 : (a1 : Int) % 4294967296 = (a1 : Int) := by omega
      have v1' : IntKind.u32.wrap (a1 : Int) = (a1 : Int) := by rw [IntKind.wrap_u32]; omega
      have v4 : IntKind.u8.wrap (a4 : Int) = (a4 : Int) := by rw [IntKind.wrap_u8]; omega
      have h0 : RdE B p wr.drew lq wr.drew := T.rd.rebase (Only.of_below (below_drew0 wr) (fun _ => False)) (fun q => q) (fun b q => q.elim)
      have hO : Hid (∀ W, Only (fun b => b = p) wr.drew W → Only (fun b => b = p ∨ b = bx) w W) := Lib.hid fun W hW => (T.only.trans (Only.of_below (below_drew0 wr) (fun _ => False)) fun b q => q.elim).trans hW fun b q => .inl (.inl q)
      have hx0 : ∀ W, Only (fun b => b = p) wr.drew W → Blk W bx 51 (cs.setIfInBounds 10 (.slice A k c)) := fun W hW => Blk.only (w := wr.drew) T.blk hW hxp
      have hc0 : ∀ W, Only (fun b => b = p) wr.drew W → W.cell? ⟨bx, 10, none⟩ = some (.slice A k c) := fun W hW => cell_blk (hx0 W hW) (by omega)
      have z0 : wr.cell? ⟨bx, 10, none⟩ = some (.slice A k c) := cell_blk T.blk (by omega)
      have HC0 := Lib.hid hc0
      have HSZ : Hid ((cs.setIfInBounds 10 (.slice A k c)).size = cs.size) := Lib.hid (by simp)
      have hNO : Hid (txP lq = none → tabP l = none) := Lib.hid fun hq => by
        rw [HP1.out, txsK_none (k := k + 1) (by show (txsK k l1).bind _ = none; rw [hK]; show (txP lq).bind _ = none; rw [hq]; rfl) hlt]
        rfl
      have hPA : Hid (∀ W, Only (fun b => b = p) wr.drew W → txP lq = none → TabPost B p bx cs w l (.panicked BadP) W) := Lib.hid fun W hW q => PAN.out W _ (HSZ.out) (hx0 W hW) (hO.out W hW) (hNO.out q)
      have hYES : Hid (4 ≤ lq.length → 8 ≤ l2.length → 8 ≤ l3.length → 1 ≤ l4.length → txP lq = some (⟨a1, a2, a3, a4⟩, l5)) := Lib.hid fun q1 q2 q3 q4 => by
        unfold txP
        rw [Q1 q1]
        show (numP 8 l2).bind _ = _
        rw [Q2 q2]
        show (numP 8 l3).bind _ = _
        rw [Q3 q3]
        show (numP 1 l4).bind _ = _
        rw [Q4 q4]
        rfl
      have M1 : Hid (lq.length < 4 → txP lq = none) := Lib.hid fun q => by unfold txP; rw [N1 q]; rfl
      have M2 : Hid (4 ≤ lq.length → l2.length < 8 → txP lq = none) := Lib.hid fun q1 q => by unfold txP; rw [Q1 q1]; show (numP 8 l2).bind _ = _; rw [N2 q]; rfl
      have M3 : Hid (4 ≤ lq.length → 8 ≤ l2.length → l3.length < 8 → txP lq = none) := Lib.hid fun q1 q2 q => by unfold txP; rw [Q1 q1]; show (numP 8 l2).bind _ = _; rw [Q2 q2]; show (numP 8 l3).bind _ = _; rw [N3 q]; rfl
      have M4 : Hid (4 ≤ lq.length → 8 ≤ l2.length → 8 ≤ l3.length → l4.length < 1 → txP lq = none) := Lib.hid fun q1 q2 q3 q => by unfold txP; rw [Q1 q1]; show (numP 8 l2).bind _ = _; rw [Q2 q2]; show (numP 8 l3).bind _ = _; rw [Q3 q3]; show (numP 1 l4).bind _ = _; rw [N4 q]; rfl
      have D1 := C1 B p wr.drew wr.drew h0
      have HT := Lib.hid T
      clear Q1 Q2 Q3 Q4 N1 N2 N3 N4 C1 hc0 T h0
      have HX0 := Lib.hid hx0
      clear hx0
      go_wp2_with fail
      go_region_law
        (first
          | (go_simp; go_at_call 116; refine D4.mono ?_; rintro e w5 (⟨m4, rfl, h5⟩ | ⟨m4, rfl, h5⟩); rotate_left; (exact ⟨rfl, hPA.out _ h5.only (M4.out m1 m2 m3 m4)⟩); have z5 := HC0.out _ h5.only; have T5 := HT.out.read heR heR2 h5; have z5a := fun o => cell_blk (T5.blk.alloc o) hsz10; clear D4 z4 h4)
          | (go_simp; go_at_call 116; refine D3.mono ?_; rintro e w4 (⟨m3, rfl, h4⟩ | ⟨m3, rfl, h4⟩); rotate_left; (exact ⟨rfl, hPA.out _ h4.only (M3.out m1 m2 m3)⟩); have z4 := HC0.out _ h4.only; have D4 := C4 B p wr.drew _ h4; clear D3 z3 h3)
          | (go_simp; go_at_call 116; refine D2.mono ?_; rintro e w3 (⟨m2, rfl, h3⟩ | ⟨m2, rfl, h3⟩); rotate_left; (exact ⟨rfl, hPA.out _ h3.only (M2.out m1 m2)⟩); have z3 := HC0.out _ h3.only; have D3 := C3 B p wr.drew _ h3; clear D2 z2 h2)
          | (go_simp; go_at_call 116; refine D1.mono ?_; rintro e w2 (⟨m1, rfl, h2⟩ | ⟨m1, rfl, h2⟩); rotate_left; (exact ⟨rfl, hPA.out _ h2.only (M1.out m1)⟩); have z2 := HC0.out _ h2.only; have D2 := C2 B p wr.drew _ h2; clear D1)
          | (refine step_append_cells (by rfl) _ _ 48 (by rfl) w.heap.size 145 it _ 4 32 Tryz.underlying48 hti htz hts htb rfl (by decide) (.slice A k c) k (txCells xs) (by rfl) (kept_none (below_none ((Below.refl _ w5).alloc (Nat.le_refl _) _)) T5.own) ⟨w5.heap.size, 0, none⟩ 1 1 [.int .u32 (a1 : Nat), .int .u64 (a2 : Nat), .int .u64 (a3 : Nat), .int .u8 (a4 : Nat)] (by rfl) rfl (new_row_cells w5 _ _ (0, 0)) (by simp [Value.oneCell']) (by unfold maxLen; omega) (by omega) (Nat.le_trans T5.only.size (by rw [World.size_alloc]; exact Nat.le_succ _)) ?_; intro A7 c7 w7 ho7 hg7 hat7; have ST := T5.step heR heR2 hBw hB hbxw _ ho7 hg7; have z7 := cell_blk ST.1 hsz10; have f7 := ST.1.frozen 10; have HS := Lib.hid ST.2; clear ST ho7 hg7 hat7 T5)
          | fail)
      all_goals
        have hKN : txsK (k + 1) l1 = some (xs ++ [⟨a1, a2, a3, a4⟩], l5) := by
          show (txsK k l1).bind _ = _
          rw [hK]
          show (txP lq).bind _ = _
          rw [hYES.out m1 m2 m3 m4]
          rfl
        have hF : ∀ x ∈ xs ++ [(⟨a1, a2, a3, a4⟩ : TxP)], x.Fits := fun x hx => by
          rcases List.mem_append.1 hx with q | q
          · exact hfx x q
          · obtain rfl := List.mem_singleton.1 q
            exact ⟨b1, b2, b3, b4⟩
        have FIN := Lib.hid (And.intro hKN (And.intro hF (And.intro HS.out (show (xs ++ [(⟨a1, a2, a3, a4⟩ : TxP)]).length = k + 1 by simp [hxl]))))
        clear hKN hF HS h5 hK hfx
        go_wp2
        go_roundw
        case rel => exact ⟨k + 1, by omega, by go_num, _, l5, A7, c7, FIN.out.1, FIN.out.2.2.2, by rw [tx_snoc]; exact FIN.out.2.2.1, FIN.out.2.1, k5⟩
        case measure => simp [intOf]; omega
    · obtain rfl : k = n := by omega
      have e1 : decide ((k : Int) < (k : Int)) = false := by rw [decide_eq_false_iff_not]; omega
      obtain ⟨m, l6, -, -, mb, s6, k6, Q6, N6, C6⟩ := num_step 1 (by omega) lq T.rd.small hlq
      have ct := C6 B p wr wr T.rd
      have HP2 : Hid (tabP l = (numP 1 lq).bind fun m => (dirsK m.1 m.2).bind fun d => some ((xs, d.1), d.2)) := Lib.hid (by rw [HP1.out, hK]; rfl)
      have mb' : m < 256 := mb
      have HT := Lib.hid T
      have hx1 := T.blk
      have h11' : (cs.setIfInBounds 10 (.slice A k c))[11]? = some (.slice none 0 0) := by
        rw [Array.getElem?_setIfInBounds_ne (by omega)]
        exact h11
      obtain ⟨cs1, hcs1⟩ : ∃ cs1, cs.setIfInBounds 10 (.slice A k c) = cs1 := ⟨_, rfl⟩
      have HCS := Lib.hid hcs1
      rw [hcs1] at hx1 h11'
      have hsz1 : 11 < cs1.size := (Array.getElem?_eq_some_iff.1 h11').1
      have hs11 : cs1.setIfInBounds 11 (.slice none 0 0) = cs1 := by
        apply Array.ext_getElem?
        intro j
        rw [Array.getElem?_setIfInBounds]
        split
        · subst_vars
          rw [h11']
        · rfl
      have hbxr := hx1.lt
      have hBr : B ≤ wr.heap.size := Nat.le_trans hBw T.only.size
      clear C6 hK T h11 h11' hcs1 HP1 mb
      go_wp2_with fail
      refine ct.mono ?_
      rintro e w3 (⟨hm1, rfl, h3⟩ | ⟨hm1, rfl, h3⟩)
      rotate_left
      · exact ⟨rfl, PAN.out _ cs1 (by rw [← HCS.out]; simp) (hx1.only h3.only hxp) (HT.out.only.trans h3.only fun b q => .inl (.inl q)) (by rw [HP2.out, N6 hm1]; rfl)⟩
      have HP3 : Hid (tabP l = (dirsK m l6).bind fun d => some ((xs, d.1), d.2)) := Lib.hid (by rw [HP2.out, Q6 hm1]; rfl)
      have T0 : TabI B p bx cs1 wr 147 2 11 (dirCells []) 0 l6 w3 none 0 := ⟨by rw [hs11]; exact hx1.only h3.only hxp, World.ownsRow_nil _ _ _ _, h3.here, h3.only.mono fun b q => .inl (.inl q)⟩
      clear ct Q6 N6 h3 hx1 hs11
      go_wp2_with fail
      go_loopw [31] (fun iv wq => ∃ j : Nat, j ≤ m ∧ iv = .int .u64 j ∧ ∃ ys ly D d, dirsK j l6 = some (ys, ly) ∧ ys.length = j ∧ TabI B p bx cs1 wr 147 2 11 (dirCells ys) j ly wq D d ∧ (∀ x ∈ ys, x.Fits) ∧ ly.length ≤ 100000) (fun iv _ => m - (intOf iv).toNat)
      case atStart => exact ⟨0, Nat.zero_le _, rfl, [], l6, none, 0, rfl, rfl, T0, (fun x hx => by cases hx), k6⟩
      case round =>
        clear T0
        rename World => wq
        obtain ⟨j, hjm, rfl, ys, ly, D, d, hK, hyl, T, hfy, hly⟩ := hrel
        rcases Nat.lt_or_ge j m with hlt | hge
        · have e1 : decide ((j : Int) < (m : Int)) = true := by rw [decide_eq_true_iff]; omega
          obtain ⟨a1, l2, -, -, b1, s2, k2, Q1, N1, C1⟩ := num_step 4 (by omega) ly T.rd.small hly
          obtain ⟨a2, l3, -, -, b2, s3, k3, Q2, N2, C2⟩ := num_step 8 (by omega) l2 s2 k2
          have v1 : (a1 : Int) % 4294967296 = (a1 : Int) := by omega
          have v1' : IntKind.u32.wrap (a1 : Int) = (a1 : Int) := by rw [IntKind.wrap_u32]; omega
          have h0 : RdE B p wq.drew ly wq.drew := T.rd.rebase (Only.of_below (below_drew0 wq) (fun _ => False)) (fun q => q) (fun b q => q.elim)
          have hO : Hid (∀ W, Only (fun b => b = p) wq.drew W → Only (fun b => b = p ∨ b = bx) w W) := Lib.hid fun W hW => HT.out.only.trans ((T.only.trans (Only.of_below (below_drew0 wq) (fun _ => False)) fun b q => q.elim).trans hW fun b q => .inl (.inl q)) fun b q => .inl q
          have hx0 : ∀ W, Only (fun b => b = p) wq.drew W → Blk W bx 51 (cs1.setIfInBounds 11 (.slice D j d)) := fun W hW => Blk.only (w := wq.drew) T.blk hW hxp
          have hc0 : ∀ W, Only (fun b => b = p) wq.drew W → W.cell? ⟨bx, 11, none⟩ = some (.slice D j d) := fun W hW => cell_blk (hx0 W hW) hsz1
          have z0 : wq.cell? ⟨bx, 11, none⟩ = some (.slice D j d) := cell_blk T.blk hsz1
          have HC0 := Lib.hid hc0
          have HSZ : Hid ((cs1.setIfInBounds 11 (.slice D j d)).size = cs.size) := Lib.hid (by rw [← HCS.out]; simp)
          have hNO : Hid (dirP ly = none → tabP l = none) := Lib.hid fun hq => by
            rw [HP3.out, dirsK_none (k := j + 1) (by show (dirsK j l6).bind _ = none; rw [hK]; show (dirP ly).bind _ = none; rw [hq]; rfl) hlt]
            rfl
          have hPA : Hid (∀ W, Only (fun b => b = p) wq.drew W → dirP ly = none → TabPost B p bx cs w l (.panicked BadP) W) := Lib.hid fun W hW q => PAN.out W _ (HSZ.out) (hx0 W hW) (hO.out W hW) (hNO.out q)
          have hYES : Hid (4 ≤ ly.length → 8 ≤ l2.length → dirP ly = some (⟨a1, a2⟩, l3)) := Lib.hid fun q1 q2 => by
            unfold dirP
            rw [Q1 q1]
            show (numP 8 l2).bind _ = _
            rw [Q2 q2]
            rfl
          have M1 : Hid (ly.length < 4 → dirP ly = none) := Lib.hid fun q => by unfold dirP; rw [N1 q]; rfl
          have M2 : Hid (4 ≤ ly.length → l2.length < 8 → dirP ly = none) := Lib.hid fun q1 q => by unfold dirP; rw [Q1 q1]; show (numP 8 l2).bind _ = _; rw [N2 q]; rfl
          have D1 := C1 B p wq.drew wq.drew h0
          have HU := Lib.hid T
          clear Q1 Q2 N1 N2 C1 hc0 T h0 hx0
          go_wp2_with fail
          go_region_law
            (first
              | (go_simp; go_at_call 116; refine D2.mono ?_; rintro e w3 (⟨m2, rfl, h3⟩ | ⟨m2, rfl, h3⟩); rotate_left; (exact ⟨rfl, hPA.out _ h3.only (M2.out m1 m2)⟩); have z3 := HC0.out _ h3.only; have T5 := HU.out.read heD heD2 h3; have z5a := fun o => cell_blk (T5.blk.alloc o) hsz1; clear D2 z2 h2)
              | (go_simp; go_at_call 116; refine D1.mono ?_; rintro e w2 (⟨m1, rfl, h2⟩ | ⟨m1, rfl, h2⟩); rotate_left; (exact ⟨rfl, hPA.out _ h2.only (M1.out m1)⟩); have z2 := HC0.out _ h2.only; have D2 := C2 B p wq.drew _ h2; clear D1)
              | (refine step_append_cells (by rfl) _ _ 49 (by rfl) wr.heap.size 147 id _ 2 16 Tryz.underlying49 hdi hdz hds hdb rfl (by decide) (.slice D j d) j (dirCells ys) (by rfl) (kept_none (below_none ((Below.refl _ w3).alloc (Nat.le_refl _) _)) T5.own) ⟨w3.heap.size, 0, none⟩ 1 1 [.int .u32 (a1 : Nat), .int .u64 (a2 : Nat)] (by rfl) rfl (new_row_cells w3 _ _ (0, 0)) (by simp [Value.oneCell']) (by unfold maxLen; omega) (by omega) (Nat.le_trans T5.only.size (by rw [World.size_alloc]; exact Nat.le_succ _)) ?_; intro A7 c7 w7 ho7 hg7 hat7; have ST := T5.step heD heD2 hBr hB hbxr _ ho7 hg7; have z7 := cell_blk ST.1 hsz1; have f7 := ST.1.frozen 11; have HS := Lib.hid ST.2; clear ST ho7 hg7 hat7 T5)
              | fail)
          all_goals
            have hKN : dirsK (j + 1) l6 = some (ys ++ [⟨a1, a2⟩], l3) := by
              show (dirsK j l6).bind _ = _
              rw [hK]
              show (dirP ly).bind _ = _
              rw [hYES.out m1 m2]
              rfl
            have hF : ∀ x ∈ ys ++ [(⟨a1, a2⟩ : DirP)], x.Fits := fun x hx => by
              rcases List.mem_append.1 hx with q | q
              · exact hfy x q
              · obtain rfl := List.mem_singleton.1 q
                exact ⟨b1, b2⟩
            have FIN := Lib.hid (And.intro hKN (And.intro hF (And.intro HS.out (show (ys ++ [(⟨a1, a2⟩ : DirP)]).length = j + 1 by simp [hyl]))))
            clear hKN hF HS h3 hK hfy
            go_wp2
            go_roundw
            case rel => exact ⟨j + 1, by omega, by go_num, _, l3, A7, c7, FIN.out.1, FIN.out.2.2.2, by rw [dir_snoc]; exact FIN.out.2.2.1, FIN.out.2.1, k3⟩
            case measure => simp [intOf]; omega
        · obtain rfl : j = m := by omega
          have e1 : decide ((j : Int) < (j : Int)) = false := by rw [decide_eq_false_iff_not]; omega
          have aw := HT.out.away heR heR2
          have FIN : Hid (TabPost B p bx cs w l (.returned (.tuple #[])) wq) := Lib.hid (.inl ⟨xs, ys, ly, by rw [HP3.out, hK]; rfl, A, c, D, d, rfl, by rw [hxl, hyl, HCS.out]; exact T.blk, by rw [hxl]; exact T.only.own HT.out.own (fun q hq e => e.elim (aw q hq).1 (aw q hq).2), by rw [hyl]; exact own_base HT.out.only.size T.own, hfx, hfy, T.rd, HT.out.only.trans T.only fun b q => .inl q⟩)
          clear T hK aw hge
          go_wp2
          go_end0
          exact FIN.out
end Go.Proofs.YtkganajbilnanaaGreat
