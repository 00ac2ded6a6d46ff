/- disk: the search for a sector's fate. Conditions: the fates lie there. -/
import Derived.Test.YtnbbneldbagohaaDiskCrashS
namespace Go.Proofs.Ytnbbneldbagohaa
open Go.ChangeShapes Go.WideShapes Go.ChangeAt Go.RowKit
set_option linter.unusedVariables false
set_option linter.unusedSimpArgs false
set_option maxRecDepth 20000

def fateCells (x : FateP) : List Value := [.int .u8 (x.file : Int), .int .i64 x.sector, .int .i64 x.keep, .int .i64 x.torn]
/-- a slice of fates -/
def FatesAt (w : World) (B : Nat) (A : Option Addr) (l : List FateP) : Prop := At w B A (l.flatMap fateCells) ∧ ∀ x ∈ l, x.file < 256
theorem flat_length (l : List FateP) : (l.flatMap fateCells).length = 4 * l.length := by
  induction l with
  | nil => rfl
  | cons x l ih => simp [fateCells, ih]; omega
theorem flat_at {l : List FateP} {k : Nat} (hk : k < l.length) : (l.flatMap fateCells)[4 * k]? = some (.int .u8 (l[k].file : Int)) ∧ (l.flatMap fateCells)[4 * k + 1]? = some (.int .i64 l[k].sector) ∧ (l.flatMap fateCells)[4 * k + 2]? = some (.int .i64 l[k].keep) ∧ (l.flatMap fateCells)[4 * k + 3]? = some (.int .i64 l[k].torn) := by
  induction l generalizing k with
  | nil => simp at hk
  | cons x l ih =>
    cases k with
    | zero => exact ⟨rfl, rfl, rfl, rfl⟩
    | succ k =>
      have := ih (k := k) (by simpa using hk)
      rw [List.flatMap_cons]
      have e : ∀ j, (fateCells x ++ l.flatMap fateCells)[4 + j]? = (l.flatMap fateCells)[j]? := fun j => by
        rw [List.getElem?_append_right (by simp [fateCells])]
        simp [fateCells]
      refine ⟨?_, ?_, ?_, ?_⟩
      · rw [show 4 * (k + 1) = 4 + 4 * k by omega, e]; exact this.1
      · rw [show 4 * (k + 1) + 1 = 4 + (4 * k + 1) by omega, e]; exact this.2.1
      · rw [show 4 * (k + 1) + 2 = 4 + (4 * k + 2) by omega, e]; exact this.2.2.1
      · rw [show 4 * (k + 1) + 3 = 4 + (4 * k + 3) by omega, e]; exact this.2.2.2
theorem FatesAt.at_ {w : World} {B : Nat} {A : Option Addr} {l : List FateP} (h : FatesAt w B A l) {k : Nat} (hk : k < l.length) : ∃ b o, A = some ⟨b, o, none⟩ ∧ b < B ∧ w.cell? ⟨b, o + 4 * k, none⟩ = some (.int .u8 (l[k].file : Int)) ∧ w.cell? ⟨b, o + 4 * k + 1, none⟩ = some (.int .i64 l[k].sector) ∧ w.cell? ⟨b, o + 4 * k + 2, none⟩ = some (.int .i64 l[k].keep) ∧ w.cell? ⟨b, o + 4 * k + 3, none⟩ = some (.int .i64 l[k].torn) ∧ l[k].file < 256 := by
  obtain ⟨f0, f1, f2, f3⟩ := flat_at hk
  have hl := flat_length l
  obtain ⟨b, o, e, hb, c0⟩ := h.1 (4 * k) (by omega)
  have g : ∀ j, 4 * k + j < (l.flatMap fateCells).length → w.cell? ⟨b, o + 4 * k + j, none⟩ = (l.flatMap fateCells)[4 * k + j]? := fun j hj => by
    obtain ⟨b', o', e', _, c⟩ := h.1 (4 * k + j) hj
    rw [e] at e'
    injection e' with e'
    injection e' with e1 e2
    subst e1
    subst e2
    rw [Nat.add_assoc, c, List.getElem?_eq_getElem hj]
  exact ⟨b, o, e, hb, by have := g 0 (by omega); rw [Nat.add_zero, Nat.add_zero] at this; exact this.trans f0, (g 1 (by omega)).trans f1, (g 2 (by omega)).trans f2, (g 3 (by omega)).trans f3, h.2 _ (List.getElem_mem hk)⟩
theorem FatesAt.below {w w' : World} {B : Nat} {A : Option Addr} {l : List FateP} (h : FatesAt w B A l) (hb : Below B w w') : FatesAt w' B A l := ⟨h.1.below hb, h.2⟩

theorem FatesAt.new (w : World) (l : List FateP) (h : ∀ x ∈ l, x.file < 256) : FatesAt (w.alloc (.cells (l.flatMap fateCells).toArray 24)) (w.heap.size + 1) (some ⟨w.heap.size, 0, none⟩) l := ⟨At.new w _ _ (0, 0), h⟩
def matchB (x : FateP) (n k : Nat) : Bool := decide (x.file = n) && decide (x.sector = (k : Int))
set_option maxHeartbeats 400000 in
theorem match_any (x : FateP) (hx : x.file < 256) (n k : Nat) (hk : k < 1000000) (hn : n < 1000000) (b1 b2 : Nat) (w : World) (c1 : w.cell? ⟨b1, 0, none⟩ = some (.int .i64 n)) (c2 : w.cell? ⟨b2, 0, none⟩ = some (.int .i64 k)) (h1 : b1 < w.heap.size) (h2 : b2 < w.heap.size) :
    Calls Try.prog 36 #[.agg #[.int .u8 x.file, .int .i64 x.sector, .int .i64 x.keep, .int .i64 x.torn], .pointer (some ⟨b1, 0, none⟩), .pointer (some ⟨b2, 0, none⟩)] w fun e w' => e = .returned (.bool (matchB x n k)) ∧ Below w.heap.size w w' := by
  obtain ⟨fl, st, kp, tn⟩ := x
  simp only at hx ⊢
  have hz : Below w.heap.size w (w.alloc (.cells #[.int .u8 fl, .int .i64 st, .int .i64 kp, .int .i64 tn] 24)) := (Below.refl _ _).alloc (Nat.le_refl _) _
  by_cases hf : fl = n
  · have e1 : (((fl : Nat) : Int) == (n : Int)) = true := by rw [beq_iff_eq]; omega
    by_cases hs : st = (k : Int)
    · have e2 : (st == (k : Int)) = true := by rw [beq_iff_eq]; omega
      have e : matchB ⟨fl, st, kp, tn⟩ n k = true := by unfold matchB; simp [hf, hs]
      rw [e]
      clear e hf hs
      go_enter Try.func36, Try.ntmps36
      go_wp2
      go_ret
      exact ⟨rfl, hz⟩
    · have e2 : (st == (k : Int)) = false := by rw [beq_eq_false_iff_ne]; omega
      have e : matchB ⟨fl, st, kp, tn⟩ n k = false := by unfold matchB; simp [hf, hs]
      rw [e]
      clear e hf hs
      go_enter Try.func36, Try.ntmps36
      go_wp2
      go_ret
      exact ⟨rfl, hz⟩
  · have e1 : (((fl : Nat) : Int) == (n : Int)) = false := by rw [beq_eq_false_iff_ne]; omega
    have e : matchB ⟨fl, st, kp, tn⟩ n k = false := by unfold matchB; simp [hf]
    rw [e]
    clear e hf
    go_enter Try.func36, Try.ntmps36
    go_wp2
    go_ret
    exact ⟨rfl, hz⟩
/-- the first one's index, or -1 -/
def idxI (l : List FateP) (n k : Nat) : Int :=
  match l.findIdx? fun x => matchB x n k with
  | some i => (i : Int)
  | none => -1
theorem idxI_none {l : List FateP} {n k : Nat} (h : ∀ j (hj : j < l.length), matchB l[j] n k = false) : idxI l n k = -1 := by
  unfold idxI
  rw [List.findIdx?_eq_none_iff.2 fun x hx => by
    obtain ⟨j, hj, rfl⟩ := List.mem_iff_getElem.1 hx
    exact h j hj]
theorem idxI_some {l : List FateP} {n k i : Nat} (hi : i < l.length) (h1 : matchB l[i] n k = true) (h : ∀ j (hj : j < l.length), j < i → matchB l[j] n k = false) : idxI l n k = (i : Int) := by
  unfold idxI
  rw [List.findIdx?_eq_some_iff_getElem.2 ⟨hi, h1, fun j hj => by simp [h j (by omega) hj]⟩]
theorem fate_of_idx (l : List FateP) (n k : Nat) : (idxI l n k = -1 ∧ fateFor l n k = FateP.zero) ∨ ∃ i, ∃ h : i < l.length, idxI l n k = (i : Int) ∧ fateFor l n k = l[i] := by
  by_cases h : ∃ i, ∃ hi : i < l.length, matchB l[i] n k = true ∧ ∀ j (hj : j < l.length), j < i → matchB l[j] n k = false
  · right
    obtain ⟨i, hi, h1, h2⟩ := h
    refine ⟨i, hi, idxI_some hi h1 h2, ?_⟩
    have e : fateFor l n k = (l.find? fun x => matchB x n k).getD FateP.zero := rfl
    have e2 : (l.find? fun x => matchB x n k) = some l[i] := List.find?_eq_some_iff_getElem.2 ⟨h1, i, hi, rfl, fun j hj => by simp [h2 j (by omega) hj]⟩
    rw [e, e2]
    rfl
  · left
    have hn : ∀ j (hj : j < l.length), matchB l[j] n k = false := by
      intro j
      induction j using Nat.strongRecOn with
      | ind j ih =>
        intro hj
        cases hm : matchB l[j] n k with
        | false => rfl
        | true => exact absurd ⟨j, hj, hm, fun i hi hij => ih i hij hi⟩ h
    refine ⟨idxI_none hn, ?_⟩
    have e : fateFor l n k = (l.find? fun x => matchB x n k).getD FateP.zero := rfl
    have e2 : (l.find? fun x => matchB x n k) = none := List.find?_eq_none.2 fun x hx => by
      obtain ⟨j, hj, rfl⟩ := List.mem_iff_getElem.1 hx
      simp [hn j hj]
    rw [e, e2]
    rfl
set_option maxHeartbeats 400000 in
theorem index_any (A : Option Addr) (c : Nat) (l : List FateP) (B : Nat) (w : World) (hl : FatesAt w B A l) (hB : B ≤ w.heap.size) (hn : l.length ≤ 100000) (n k : Nat) (hk1 : k < 1000000) (hn1 : n < 1000000) (b1 b2 : Nat) (c1 : w.cell? ⟨b1, 0, none⟩ = some (.int .i64 n)) (c2 : w.cell? ⟨b2, 0, none⟩ = some (.int .i64 k)) (h1 : b1 < w.heap.size) (h2 : b2 < w.heap.size) :
    Calls Try.prog 35 #[.slice A l.length c, .func (.func 36) #[] #[.pointer (some ⟨b1, 0, none⟩), .pointer (some ⟨b2, 0, none⟩)]] w fun e w' => e = .returned (.int .i64 (idxI l n k)) ∧ Below w.heap.size w w' := by
  go_enter Try.func35, Try.ntmps35
  go_wp2_with fail
  go_loopw [8, 5] (fun i j wr => ∃ q : Nat, q ≤ l.length ∧ i = .int .i64 q ∧ Hid (∀ j (hj : j < l.length), j < q → matchB l[j] n k = false) ∧ Below w.heap.size w wr) (fun i _ _ => l.length - (intOf i).toNat)
  case atStart => exact ⟨0, Nat.zero_le _, rfl, fun j hj h => absurd h (by omega), Below.refl _ _⟩
  case round =>
    obtain ⟨q, hq, rfl, H, hb⟩ := hrel
    rcases Nat.lt_or_ge q l.length with hlt | hge
    · have e1 : decide ((q : Int) < (l.length : Int)) = true := by rw [decide_eq_true_iff]; omega
      have e2 : (0 : Int) ≤ (q : Int) := by omega
      have e3 : (q : Int) < (l.length : Int) := by omega
      obtain ⟨b, o, rfl, hb1, x0, x1, x2, x3, hx⟩ := (hl.below (hb.mono hB)).at_ hlt
      rw [Nat.mul_comm 4 q] at x0 x1 x2 x3
      have d1 := (hb.cell (p := ⟨b1, 0, none⟩) h1).trans c1
      have d2 := (hb.cell (p := ⟨b2, 0, none⟩) h2).trans c2
      have hsz := hb.size
      have hm := fun W (hW : Below wr.heap.size wr W) => match_any l[q] hx n k hk1 hn1 b1 b2 W ((hW.cell (p := ⟨b1, 0, none⟩) (Nat.lt_of_lt_of_le h1 hsz)).trans d1) ((hW.cell (p := ⟨b2, 0, none⟩) (Nat.lt_of_lt_of_le h2 hsz)).trans d2) (Nat.lt_of_lt_of_le (Nat.lt_of_lt_of_le h1 hsz) hW.size) (Nat.lt_of_lt_of_le (Nat.lt_of_lt_of_le h2 hsz) hW.size)
      have Hy := Lib.hid (fun (hmm : matchB l[q] n k = true) => idxI_some hlt hmm fun j hj hjq => H.out j hj hjq)
      have Hn : Hid (matchB l[q] n k = false → ∀ j (hj : j < l.length), j < q + 1 → matchB l[j] n k = false) := fun hmm j hj hjq => by
        rcases Nat.lt_or_ge j q with z | z
        · exact H.out j hj z
        · obtain rfl : j = q := by omega
          exact hmm
      clear c1 c2 hl H
      cases hmm : matchB l[q] n k with
      | false =>
        rw [hmm] at hm
        have HN := Lib.hid (Hn.out hmm)
        clear Hy Hn hmm
        generalize l[q] = x at *
        go_wp2_with fail
        refine (hm _ (Below.refl _ _)).mono ?_
        rintro e w1 ⟨rfl, hb2⟩
        go_wp2
        go_roundw
        case rel => exact ⟨q + 1, by omega, by go_num, HN, hb.trans (hb2.mono hsz)⟩
        case measure => simp [intOf]; omega
      | true =>
        rw [hmm] at hm
        have HY := Lib.hid (Hy.out hmm)
        clear Hy Hn hmm
        generalize l[q] = x at *
        go_wp2_with fail
        refine (hm _ (Below.refl _ _)).mono ?_
        rintro e w1 ⟨rfl, hb2⟩
        go_wp2
        go_ret
        exact ⟨ret_int HY.out.symm, hb.trans (hb2.mono hsz)⟩
    · obtain rfl : q = l.length := by omega
      have e1 : decide ((l.length : Int) < (l.length : Int)) = false := by rw [decide_eq_false_iff_not]; omega
      have HY := Lib.hid (idxI_none (l := l) (n := n) (k := k) fun j hj => H.out j hj hj)
      clear hl H
      go_wp2
      go_ret
      exact ⟨ret_int HY.out.symm, hb⟩
end Go.Proofs.Ytnbbneldbagohaa
