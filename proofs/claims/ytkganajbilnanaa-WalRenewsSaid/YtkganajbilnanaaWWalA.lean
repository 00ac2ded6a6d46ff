/- wal: which record stands at a place. Conditions: the log's box and its places lie there; places grow. -/
import Derived.Test.YtkganajbilnanaaWWalQ
namespace Go.Proofs.Ytkganajbilnanaa
open Go.ChangeShapes Go.WideShapes Go.ChangeAt Go.RowKit
open NumMath
set_option linter.unusedVariables false
set_option linter.unusedSimpArgs false
set_option maxRecDepth 20000

def cntP (l : List Nat) (x : Nat) : Nat := l.countP fun y => decide (y < x)
theorem cnt_eq {l : List Nat} {x i : Nat} (hi : i ≤ l.length) (h : ∀ (t y : Nat), l[t]? = some y → (t < i → y < x) ∧ (i ≤ t → x ≤ y)) : cntP l x = i := by
  have h1 : (l.take i).countP (fun y => decide (y < x)) = i := by
    rw [List.countP_eq_length.2, List.length_take, Nat.min_eq_left hi]
    intro y hy
    obtain ⟨t, ht, rfl⟩ := List.mem_iff_getElem.1 hy
    rw [List.length_take] at ht
    rw [List.getElem_take]
    exact decide_eq_true ((h t _ (List.getElem?_eq_getElem (by omega))).1 (by omega))
  have h2 : (l.drop i).countP (fun y => decide (y < x)) = 0 := by
    rw [List.countP_eq_zero]
    intro y hy
    obtain ⟨t, ht, rfl⟩ := List.mem_iff_getElem.1 hy
    rw [List.length_drop] at ht
    rw [List.getElem_drop]
    have := (h (i + t) _ (List.getElem?_eq_getElem (by omega))).2 (by omega)
    simp
    omega
  unfold cntP
  conv => lhs; rw [← List.take_append_drop i l]
  rw [List.countP_append, h1, h2, Nat.add_zero]
theorem bsearch_is (A : Option Addr) (c : Nat) (l : List Nat) (B : Nat) (w : World) (h : At w B A (placeV l)) (hm : ∀ (s t a b : Nat), s ≤ t → l[s]? = some a → l[t]? = some b → a ≤ b) (hl : l.length ≤ 100000) (x : Nat) :
    Calls Try.prog 66 #[.slice A l.length c, .int .i64 (x : Nat)] w fun e w' => e = .returned (.tuple #[.int .i64 (cntP l x : Nat), .bool (decide (l[cntP l x]? = some x))]) ∧ w = w' := by
  refine (bsearch_any A c l B w h hm hl x).mono ?_
  rintro e w' ⟨⟨i, b, rfl, hi, hall, hb⟩, rfl⟩
  have e1 := cnt_eq hi hall
  rw [e1]
  have e2 : decide (l[i]? = some x) = b := by
    rw [Bool.eq_iff_iff, decide_eq_true_iff]
    exact hb.symm
  rw [e2]
  exact ⟨rfl, rfl⟩
/-- what at answers: of the places, how many lie ahead of it, and does one stand there -/
def AtPost (base n : Nat) (starts : List Nat) (lsn : Nat) (w : World) (e : Ending) (w' : World) : Prop :=
  (∃ (i : Nat) (b : Bool), e = .returned (.tuple #[.int .i64 (i : Nat), .bool b]) ∧
    ((lsn < base ∧ i = 0 ∧ b = false) ∨ (base ≤ lsn ∧ base + n ≤ lsn ∧ i = starts.length ∧ b = false) ∨
     (base ≤ lsn ∧ lsn < base + n ∧ i = cntP starts (lsn - base) ∧ b = decide (starts[cntP starts (lsn - base)]? = some (lsn - base))))) ∧ Drew w w'
set_option maxHeartbeats 4000000 in
theorem at_any {h : HeadP} {dp : Value} {strips slot lasts gl : Nat} {w : World} {A As : Option Addr} {n c cs : Nat} {starts : List Nat} (B : Nat)
    (kb : Blk w gl 75 (logV h dp strips slot (.slice A n c) (.slice As starts.length cs) lasts)) (hs : At w B As (placeV starts)) (hm : ∀ (s t a b : Nat), s ≤ t → starts[s]? = some a → starts[t]? = some b → a ≤ b) (hl : starts.length ≤ 100000)
    (hn : h.base + n < 18446744073709551616) (hn2 : n ≤ 100000000) (lsn : Nat) (hlsn : lsn < 18446744073709551616) :
    Calls Try.prog 44 #[.pointer (some ⟨gl, 0, none⟩), .int .u64 (lsn : Nat)] w (AtPost h.base n starts lsn w) := by
  have c1 : w.cell? ⟨gl, 1, none⟩ = some (.int .u64 (h.base : Nat)) := kb.cell 1
  have c8 : w.cell? ⟨gl, 8, none⟩ = some (.slice As starts.length cs) := kb.cell 8
  have ce := end_any kb hn
  generalize h.base = b at *
  obtain ⟨s, hs'⟩ : ∃ s, b + n = s := ⟨_, rfl⟩
  rw [hs'] at ce hn
  have HS := Lib.hid hs'
  rcases Nat.lt_or_ge lsn b with z | z
  · have t1 : decide ((lsn : Int) < (b : Int)) = true := by rw [decide_eq_true_iff]; omega
    have F : Hid (AtPost b n starts lsn w (.returned (.tuple #[.int .i64 ((0 : Nat) : Int), .bool false])) w) := Lib.hid ⟨⟨0, false, rfl, .inl ⟨z, rfl, rfl⟩⟩, Drew.refl _⟩
    clear ce hs' hs kb hm
    go_enter Try.func44, Try.ntmps44
    go_wp2
    go_ret2
    exact F.out
  have t1 : decide ((lsn : Int) < (b : Int)) = false := by rw [decide_eq_false_iff_not]; omega
  have u1 : ¬ (lsn < b) := by omega
  rcases Nat.lt_or_ge lsn s with z2 | z2
  rotate_left
  · have t2 : decide ((s : Int) ≤ (lsn : Int)) = true := by rw [decide_eq_true_iff]; omega
    have F : Hid (∀ W, Drew w W → AtPost b n starts lsn w (.returned (.tuple #[.int .i64 (starts.length : Nat), .bool false])) W) := Lib.hid fun W hd => ⟨⟨_, false, rfl, .inr (.inl ⟨z, by omega, rfl, rfl⟩)⟩, hd⟩
    have C8 : Hid (∀ W, Drew w W → W.cell? ⟨gl, 8, none⟩ = some (.slice As starts.length cs)) := Lib.hid fun W hd => by obtain ⟨m, rfl⟩ := hd; exact c8
    generalize starts.length = m at *
    clear hs' hs kb hm c8
    go_enter Try.func44, Try.ntmps44
    go_wp2_with fail
    refine ce.mono ?_
    rintro e w2 ⟨rfl, hd⟩
    have c8 := C8.out w2 hd
    have FF := Lib.hid (F.out w2 hd)
    clear ce hd F
    go_wp2
    go_ret2
    exact FF.out
  · have t2 : decide ((s : Int) ≤ (lsn : Int)) = false := by rw [decide_eq_false_iff_not]; omega
    have u2 : ¬ (s ≤ lsn) := by omega
    obtain ⟨x, hx⟩ : ∃ x, lsn - b = x := ⟨_, rfl⟩
    have v1 : IntKind.u64.wrap ((lsn : Int) - (b : Int)) = (x : Int) := by rw [IntKind.wrap_u64]; omega
    have v2 : IntKind.i64.wrap (x : Int) = (x : Int) := by rw [IntKind.wrap_i64]; omega
    have v3 : wrap64 (x : Int) = (x : Int) := by unfold wrap64; omega
    have cb : Hid (∀ W, Drew w W → ∀ q, Calls Try.prog 66 #[.slice As starts.length cs, .int .i64 (x : Nat)] (W.drewN q) fun e w' => e = .returned (.tuple #[.int .i64 (cntP starts x : Nat), .bool (decide (starts[cntP starts x]? = some x))]) ∧ W.drewN q = w') := Lib.hid fun W hd q => by
      obtain ⟨m, rfl⟩ := hd
      exact bsearch_is As cs starts B ((w.drewN m).drewN q) (fun j hj => hs j hj) hm hl x
    have C8 : Hid (∀ W, Drew w W → W.cell? ⟨gl, 8, none⟩ = some (.slice As starts.length cs) ∧ W.cell? ⟨gl, 1, none⟩ = some (.int .u64 (b : Nat))) := Lib.hid fun W hd => by obtain ⟨m, rfl⟩ := hd; exact ⟨c8, c1⟩
    have F : Hid (∀ W, Drew w W → AtPost b n starts lsn w (.returned (.tuple #[.int .i64 (cntP starts x : Nat), .bool (decide (starts[cntP starts x]? = some x))])) W) := Lib.hid fun W hd => by
      exact ⟨⟨_, _, rfl, .inr (.inr ⟨z, by omega, by rw [hx], by rw [hx]⟩)⟩, hd⟩
    generalize (cntP starts x : Nat) = i at *
    generalize decide (starts[i]? = some x) = bb at *
    generalize starts.length = m at *
    clear hs' hs kb hm c8 hx
    go_enter Try.func44, Try.ntmps44
    go_wp2_with fail
    refine ce.mono ?_
    rintro e w2 ⟨rfl, hd⟩
    obtain ⟨c8, c1'⟩ := C8.out w2 hd
    have FF := Lib.hid (fun q => F.out _ (hd.more q))
    have cb2 := cb.out w2 hd
    clear ce hd F c1
    go_wp2_with fail
    go_quiet (first | (go_at_call 66; exact Calls.quiet_of_same ((cb2 _).mono fun _ _ hh => ⟨hh.1, hh.2.symm⟩)) | fail)
    go_wp2
    go_ret2
    exact FF.out _
end Go.Proofs.Ytkganajbilnanaa
