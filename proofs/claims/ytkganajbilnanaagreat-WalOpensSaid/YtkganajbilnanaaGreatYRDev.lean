/- The document's device in memory; what is asked of it. Conditions: the device lies there. -/
import Derived.Test.YtkganajbilnanaaGreatYDiskD
set_option linter.unusedVariables false
set_option linter.unusedSimpArgs false
namespace Go.Proofs.YtkganajbilnanaaGreat
open Go.ChangeShapes Go.WideShapes Go.ChangeAt Go.RowKit
set_option maxRecDepth 20000
structure RAt (D : DevP) (w : World) (F : Nat → Prop) (gp : Nat) (s : Nat → Value) (lf : Int) (X : Nat → List Value) : Prop extends FilesAt 126 D.f w F s X where
  blk : Blk w gp 77 #[s 0, s 1, .bool D.left.isSome, .int .i64 lf, .bool D.halted]
  inF : F gp
  left : ∀ n, D.left = some n → lf = (n : Int) ∧ n < 9223372036854775808
def IsRDev (D : DevP) (w : World) (F : Nat → Prop) (p : Value) : Prop := ∃ gp s lf X, p = .pointer (some ⟨gp, 0, none⟩) ∧ RAt D w F gp s lf X
section
variable {D : DevP} {w w' : World} {F F' S : Nat → Prop} {p : Value} {gp : Nat} {s : Nat → Value} {lf : Int} {X : Nat → List Value}
theorem RAt.only (h : RAt D w F gp s lf X) (ho : Only S w w') (hs : ∀ b, F b → ¬ S b) : RAt D w' F gp s lf X := ⟨h.toFilesAt.only ho hs, h.blk.only ho (hs gp h.inF), h.inF, h.left⟩
theorem RAt.mono (h : RAt D w F gp s lf X) (hs : ∀ b, F b → F' b) : RAt D w F' gp s lf X := ⟨h.toFilesAt.mono hs, h.blk, hs gp h.inF, h.left⟩
theorem RAt.grown (h : RAt D w F gp s lf X) (hb : Below w.heap.size w w') (hF : ∀ b, F b → F' b) : RAt D w' F' gp s lf X := (h.only (Only.of_below hb (fun _ => False)) fun _ _ q => q).mono hF
theorem IsRDev.only (h : IsRDev D w F p) (ho : Only S w w') (hs : ∀ b, F b → ¬ S b) : IsRDev D w' F p := by
  obtain ⟨gp, s, lf, X, e, h⟩ := h
  exact ⟨gp, s, lf, X, e, h.only ho hs⟩
theorem IsRDev.mono (h : IsRDev D w F p) (hs : ∀ b, F b → F' b) : IsRDev D w F' p := by
  obtain ⟨gp, s, lf, X, e, h⟩ := h
  exact ⟨gp, s, lf, X, e, h.mono hs⟩
theorem IsRDev.below (h : IsRDev D w F p) (hb : Below w.heap.size w w') : IsRDev D w' F p := h.only (Only.of_below hb (fun _ => False)) fun _ _ q => q
def RPost (D' : DevP) (F : Nat → Prop) (p : Value) (w w' : World) : Prop := IsRDev D' w' (grow F w w') p ∧ Only F w w'
theorem RPost.refl (h : IsRDev D w F p) : RPost D F p w w := ⟨h.mono fun b q => .inl q, Only.refl _ _⟩
theorem RAt.cellF (h : RAt D w F gp s lf X) {n : Nat} (hn : n < 2) : w.cell? ⟨gp, n, none⟩ = some (s n) := by
  refine (h.blk.cell n).trans ?_
  rcases (show n = 0 ∨ n = 1 from by omega) with rfl | rfl <;> rfl
theorem FilesAt.sector {ts : TypeId} {f : Nat → List Sect} (h : FilesAt ts f w F s X) {n : Nat} (hn : n < 2) {k : Nat} (hk : k < (f n).length) :
    ∃ g c lv wv, s n = .slice (some ⟨g, 0, none⟩) (f n).length c ∧ w.cell? ⟨g, 2 * k, none⟩ = some lv ∧ w.cell? ⟨g, 2 * k + 1, none⟩ = some wv ∧ Txt w F lv (f n)[k].last ∧ IsWaits w F wv (f n)[k].waits ∧ F g ∧ g < w.heap.size ∧ (X n)[2 * k]? = some lv ∧ (X n)[2 * k + 1]? = some wv := by
  obtain ⟨ho, hF, hs⟩ := h.file n hn
  obtain ⟨lv, wv, e1, e2, e3, e4⟩ := hs k _ (List.getElem?_eq_getElem hk)
  obtain ⟨A, c, e, -, -⟩ := own_form ho
  rw [e] at ho hF
  obtain ⟨g, rfl, hg, hg'⟩ := own_pos ho (by omega)
  exact ⟨g, c, lv, wv, e, (ho.cellAt _ (by omega)).trans e1, (ho.cellAt _ (by omega)).trans e2, e3, e4, hF g rfl, hg', e1, e2⟩
theorem none_yes (h : RAt D w F gp s lf X) {n k : Nat} (hn : n < 2) (hk : k < (D.f n).length) (hL : (D.f n).length ≤ 4096) :
    Calls Tryz.prog 83 #[.pointer (some ⟨gp, 0, none⟩), .int .u8 n, .int .i64 k] w fun e w' => e = .returned (.bool false) ∧ w = w' := by
  have c0 := h.cellF hn
  obtain ⟨A, c, e, -, -⟩ := own_form (h.file n hn).1
  rw [e] at c0
  generalize (D.f n).length = m at *
  have e1 : decide ((1 : Int) < (n : Int)) = false := by rw [decide_eq_false_iff_not]; omega
  have e2 : decide ((k : Int) < 0) = false := by rw [decide_eq_false_iff_not]; omega
  have e3 : decide (m ≤ k) = false := by rw [decide_eq_false_iff_not]; omega
  have e4 : (0 : Int) ≤ (n : Int) := by omega
  have e5 : (n : Int) < 2 := by omega
  clear h e
  go_enter Tryz.func83, Tryz.ntmps83
  go_wp2
  go_ret
  exact ⟨rfl, rfl⟩
theorem none_no (h : RAt D w F gp s lf X) (n : Nat) (hn : n < 256) (i : Int) (hi : ¬ D.has n i) :
    Calls Tryz.prog 83 #[.pointer (some ⟨gp, 0, none⟩), .int .u8 n, .int .i64 i] w fun e w' => e = .returned (.bool true) ∧ w = w' := by
  by_cases hn2 : n < 2
  · have c0 := h.cellF hn2
    obtain ⟨A, c, e, -, -⟩ := own_form (h.file n hn2).1
    rw [e] at c0
    have e1 : decide ((1 : Int) < (n : Int)) = false := by rw [decide_eq_false_iff_not]; omega
    have e4 : (0 : Int) ≤ (n : Int) := by omega
    have e5 : (n : Int) < 2 := by omega
    by_cases h0 : i < 0
    · have e2 : decide (i < 0) = true := by rw [decide_eq_true_iff]; exact h0
      clear h e
      go_enter Tryz.func83, Tryz.ntmps83
      go_wp2
      go_ret
      exact ⟨rfl, rfl⟩
    · have e2 : decide (i < 0) = false := by rw [decide_eq_false_iff_not]; exact h0
      have e3 : decide (((D.f n).length : Int) ≤ i) = true := by
        rw [decide_eq_true_iff]
        have : ¬ i < ((D.f n).length : Int) := fun q => hi ⟨hn2, by omega, q⟩
        omega
      generalize (D.f n).length = m at *
      clear h e
      go_enter Tryz.func83, Tryz.ntmps83
      go_wp2
      go_ret
      exact ⟨rfl, rfl⟩
  · have e1 : decide ((1 : Int) < (n : Int)) = true := by rw [decide_eq_true_iff]; omega
    clear h
    go_enter Tryz.func83, Tryz.ntmps83
    go_wp2
    go_ret
    exact ⟨rfl, rfl⟩
theorem rhard (h : RAt D w F gp s lf X) : Hard F w gp := ⟨h.inF, fun hu => absurd (hu.uniq' h.blk.ty) (by decide)⟩
theorem rfar (h : RAt D w F gp s lf X) : Far w 126 (fun b => b = gp) := fun b q hb => by
  subst q
  exact ⟨_, h.blk.ty, by decide, by decide, by decide⟩
theorem stopped_any (h : RAt D w F gp s lf X) :
    Calls Tryz.prog 127 #[.pointer (some ⟨gp, 0, none⟩)] w fun e w' => e = .returned (.bool (!D.goes.1)) ∧ (∃ lf', RAt D.goes.2 w' F gp s lf' X) ∧ Only (Hard F w) w w' := by
  obtain ⟨f, left, halted⟩ := D
  have c1 := h.blk.cell 1
  have c2 := h.blk.cell 2
  have c3 := h.blk.cell 3
  have c4 := h.blk.cell 4
  have f3 := h.blk.frozen 3
  have f4 := h.blk.frozen 4
  cases left with
  | none =>
    go_enter Tryz.func127, Tryz.ntmps127
    go_wp2
    go_ret
    exact ⟨rfl, ⟨lf, h⟩, Only.refl _ _⟩
  | some n =>
    obtain ⟨rfl, hn⟩ := h.left n rfl
    cases n with
    | zero =>
      have hH := rhard h
      have hfin : RAt ⟨f, some 0, true⟩ (w.setCell ⟨gp, 4, none⟩ (.bool true)) F gp s 0 X := ⟨h.toFilesAt.far ((Only.refl (fun b => b = gp) w).setCell (p := ⟨gp, 4, none⟩) (.inl rfl) _) (rfar h), h.blk.set_ 4 _, h.inF, fun m e => by injection e with e; subst e; exact ⟨rfl, by omega⟩⟩
      have ho : Only (Hard F w) w (w.setCell ⟨gp, 4, none⟩ (.bool true)) := (Only.refl (Hard F w) w).setCell (p := ⟨gp, 4, none⟩) (.inl hH) _
      clear h
      go_enter Tryz.func127, Tryz.ntmps127
      go_wp2
      go_ret
      exact ⟨rfl, ⟨0, hfin⟩, ho⟩
    | succ m =>
      have hH := rhard h
      have hfin : RAt ⟨f, some m, halted⟩ (w.setCell ⟨gp, 3, none⟩ (.int .i64 (m : Int))) F gp s m X := ⟨h.toFilesAt.far ((Only.refl (fun b => b = gp) w).setCell (p := ⟨gp, 3, none⟩) (.inl rfl) _) (rfar h), h.blk.set_ 3 _, h.inF, fun q e => by injection e with e; subst e; exact ⟨rfl, by omega⟩⟩
      have ho : Only (Hard F w) w (w.setCell ⟨gp, 3, none⟩ (.int .i64 (m : Int))) := (Only.refl (Hard F w) w).setCell (p := ⟨gp, 3, none⟩) (.inl hH) _
      obtain ⟨q, hq⟩ : ∃ q : Nat, m + 1 = q := ⟨_, rfl⟩
      have c3' : w.cell? ⟨gp, 3, none⟩ = some (.int .i64 (q : Nat)) := by rw [← hq]; exact c3
      have e1 : decide ((0 : Int) < (q : Int)) = true := by rw [decide_eq_true_iff]; omega
      have e2 : (q : Int) - 1 = (m : Int) := by omega
      have e3 : IntKind.i64.wrap (m : Int) = (m : Int) := by rw [IntKind.wrap_i64]; omega
      clear h hq c3
      go_enter Tryz.func127, Tryz.ntmps127
      go_wp2
      go_ret
      exact ⟨rfl, ⟨m, hfin⟩, ho⟩
theorem rlent_any (A : Option Addr) (c : Nat) (l : List Nat) (B : Nat) (w : World) (hl : Bytes w B A l) (hn : l.length ≤ 1000000) :
    Calls Tryz.prog 72 #[.slice A l.length c] w (RetBytes 5 l w) := by
  obtain ⟨i0, hi0, hz0, hz1, hz2⟩ := info_parts u8_info
  go_enter Tryz.func72, Tryz.ntmps72
  go_wp2_with (at_builtin; refine wpList_append_at rfl _ _ 45 rfl w.heap.size 5 i0 _ 1 Tryz.underlying45 hi0 hz0 hz1 hz2 rfl (.slice none 0 0) 0 [] rfl (World.ownsRow_nil _ _ _ _) B A l.length c (l.map byteV) rfl (by simp) hl.1 (bytes_oneCell _) (by unfold maxLen; omega) (by omega) (Nat.le_refl _) ?_; intro A1 c1 w1 hown1 hg1 hat1; simp only [Nat.zero_add, List.nil_append] at hown1)
  go_ret
  exact ⟨A1, c1, rfl, hown1, (Below.refl _ _).grown hg1 (Nat.le_refl _) (by simp [Value.ownBlock]), hl.2⟩
theorem rsize_any (h : IsRDev D w F p) (n : Nat) (hn : n < 256) :
    Calls Tryz.prog 82 #[p, .int .u8 n] w fun e w' => e = .returned (.int .i64 (D.size n : Nat)) ∧ w = w' := by
  obtain ⟨gp, s, lf, X, rfl, h⟩ := h
  by_cases hn2 : n < 2
  · have c0 := h.cellF hn2
    obtain ⟨A, c, e, -, -⟩ := own_form (h.file n hn2).1
    rw [e] at c0
    have hs : D.size n = (D.f n).length := if_pos hn2
    rw [hs]
    generalize (D.f n).length = m at *
    have e1 : decide ((1 : Int) < (n : Int)) = false := by rw [decide_eq_false_iff_not]; omega
    have e4 : (0 : Int) ≤ (n : Int) := by omega
    have e5 : (n : Int) < 2 := by omega
    clear h e hs
    go_enter Tryz.func82, Tryz.ntmps82
    go_wp2
    go_ret
    exact ⟨rfl, rfl⟩
  · have hs : D.size n = 0 := if_neg hn2
    rw [hs]
    have e1 : decide ((1 : Int) < (n : Int)) = true := by rw [decide_eq_true_iff]; omega
    clear h
    go_enter Tryz.func82, Tryz.ntmps82
    go_wp2
    go_ret
    exact ⟨rfl, rfl⟩
theorem rhalted_any (h : IsRDev D w F p) :
    Calls Tryz.prog 99 #[p] w fun e w' => e = .returned (.bool D.halted) ∧ w = w' := by
  obtain ⟨gp, s, lf, X, rfl, h⟩ := h
  have c4 := h.blk.cell 4
  clear h
  generalize D.halted = q at *
  go_enter Tryz.func99, Tryz.ntmps99
  go_wp2
  go_ret
  exact ⟨rfl, rfl⟩
theorem rhalt_any (h : IsRDev D w F p) (n : Int) (hn : n < 9223372036854775808) :
    Calls Tryz.prog 62 #[p, .int .i64 n] w fun e w' => e = .returned (.tuple #[]) ∧ RPost (D.halt n) F p w w' := by
  obtain ⟨gp, s, lf, X, rfl, h⟩ := h
  have c2 := h.blk.cell 2
  have c3 := h.blk.cell 3
  have f2 := h.blk.frozen 2
  have f3 := h.blk.frozen 3
  have hH := rhard h
  have fin : ∀ q : Int, q = max n 0 → RPost (D.halt n) F (.pointer (some ⟨gp, 0, none⟩)) w ((w.setCell ⟨gp, 2, none⟩ (.bool true)).setCell ⟨gp, 3, none⟩ (.int .i64 q)) := fun q e => by
    have ho : Only (fun b => b = gp) w ((w.setCell ⟨gp, 2, none⟩ (.bool true)).setCell ⟨gp, 3, none⟩ (.int .i64 q)) := ((Only.refl (fun b => b = gp) w).setCell (p := ⟨gp, 2, none⟩) (.inl rfl) _).setCell (p := ⟨gp, 3, none⟩) (.inl rfl) _
    refine ⟨⟨gp, s, q, X, rfl, ⟨(h.toFilesAt.far ho (rfar h)).mono fun b z => .inl z, ((h.blk.set_ 2 _).set_ 3 _), .inl h.inF, fun m e2 => ?_⟩⟩, ho.mono fun b z => .inl (by subst z; exact h.inF)⟩
    have e3 : some (max n 0).toNat = some m := e2
    injection e3 with e3
    subst e
    omega
  have FIN := Lib.hid fin
  clear fin h
  by_cases h0 : n < 0
  · have e1 : (0 : Int) > n := h0
    have e2 : ¬ (0 : Int) ≤ n := by omega
    go_enter Tryz.func62, Tryz.ntmps62
    go_wp2
    go_end0
    exact ⟨rfl, FIN.out 0 (by omega)⟩
  · have e2 : (0 : Int) ≤ n := by omega
    go_enter Tryz.func62, Tryz.ntmps62
    go_wp2
    go_end0
    exact ⟨rfl, FIN.out n (by omega)⟩
theorem rwaits_any (h : IsRDev D w F p) {N : Nat} (hG : D.good N) (n : Nat) (hn : n < 256) (i : Int) :
    Calls Tryz.prog 94 #[p, .int .u8 n, .int .i64 i] w fun e w' => e = .returned (.int .i64 (D.waits n i : Nat)) ∧ w = w' := by
  obtain ⟨gp, s, lf, X, rfl, h⟩ := h
  by_cases hh : D.has n i
  · have hh' := hh
    obtain ⟨h1, h2, h3⟩ := hh
    obtain ⟨k, rfl⟩ := Int.eq_ofNat_of_zero_le h2
    have hk : k < (D.f n).length := by omega
    have e1 : D.waits n (k : Nat) = (D.f n)[k].waits.length := by
      unfold DevP.waits
      rw [if_pos hh', Int.toNat_natCast, DevP.sect_eq hk]
    rw [e1]
    clear e1 hh'
    have hno := none_yes h h1 hk (hG n h1).1
    obtain ⟨g, c, lw, wv, es, q0, q1, ht, ⟨L, how, -, -⟩, -⟩ := h.toFilesAt.sector h1 hk
    obtain ⟨A5, c5, rfl, -, -⟩ := own_form how
    have c0 := h.cellF h1
    rw [es] at c0
    rw [Nat.mul_comm 2 k] at q1
    clear h ht q0
    generalize (D.f n)[k].waits.length = m at *
    generalize (D.f n).length = m2 at *
    have e4 : (0 : Int) ≤ (n : Int) := by omega
    have e5 : (n : Int) < 2 := by omega
    have e6 : (0 : Int) ≤ (k : Int) := by omega
    have e7 : (k : Int) < (m2 : Int) := by omega
    clear how
    go_enter Tryz.func94, Tryz.ntmps94
    go_wp2_with fail
    refine hno.mono ?_
    rintro e w1 ⟨rfl, rfl⟩
    go_wp2
    go_ret
    exact ⟨rfl, rfl⟩
  · have e1 : D.waits n i = 0 := by
      unfold DevP.waits
      rw [if_neg hh]
    rw [e1]
    have hno := none_no h n hn i hh
    clear h
    go_enter Tryz.func94, Tryz.ntmps94
    go_wp2_with fail
    refine hno.mono ?_
    rintro e w1 ⟨rfl, rfl⟩
    go_wp2
    go_ret
    exact ⟨rfl, rfl⟩
end
end Go.Proofs.YtkganajbilnanaaGreat
