/- rec's document: change. Conditions: the change lies there; its bytes are few. -/
import Derived.Test.YthbaoljghofkoaaRecFm
import Derived.Test.YthbaoljghofkoaaRB
namespace Go.Proofs.Ythbaoljghofkoaa
open Go.ChangeShapes Go.WideShapes Go.ChangeAt Go.RowKit
open NumMath
set_option linter.unusedVariables false
set_option linter.unusedSimpArgs false
set_option maxRecDepth 20000

theorem refputn_any (n m : Nat) (w : World) (h1 : n < 18446744073709551616) (h2 : 1 ≤ m) (h3 : m ≤ 8) : Calls Try.prog 29 #[.int .u64 n, .int .i64 m] w fun e w' => ∃ A c, e = .returned (.slice A m c) ∧ w'.ownsRow w.heap.size 5 1 (.slice A m c) m ((putF m n).map byteV) ∧ Below w.heap.size w w' := by
  have h := refput_any n m w h1 (by omega) (by omega)
  have e : putB n m = putF m n := by unfold putB; rw [if_pos ⟨by omega, by omega⟩]; simp
  rw [e] at h
  refine h.mono ?_
  rintro e w' ⟨A, c, he, ho, hb, -⟩
  rw [putF_length] at he ho
  exact ⟨A, c, he, ho, hb⟩
theorem putF_one {x : Nat} (h : x < 256) : putF 1 x = [x] := by simp [putF, Nat.mod_eq_of_lt h]
theorem two_bytes (w : World) {x y : Nat} (hx : x < 256) (hy : y < 256) : Bytes (w.alloc (.cells #[.int .u8 (x : Int), .int .u8 (y : Int)] 5)) (w.heap.size + 1) (some ⟨w.heap.size, 0, none⟩) [x, y] :=
  ⟨At.new w [byteV x, byteV y] 5 (0, 0), fun z hz => by simp at hz; omega⟩
theorem chgL_eq (c : ChgP) (f : Nat) (hf : f < 256) (h : flagsN c = f) (h1 : c.before.length < 256) (h2 : c.after.length < 256) : putF 4 c.page ++ putF 2 c.slot ++ [f, c.before.length] ++ c.before ++ [c.after.length] ++ c.after = chgL c := by
  unfold chgL lenL
  rw [h, putF_one hf, putF_one h1, putF_one h2]
  simp
set_option maxHeartbeats 8000000 in
theorem refchange_any (ch : ChgP) (m : ChgM) (B : Nat) (w : World) (h : ChgAt w B ch m) (hB : B ≤ w.heap.size) (h1 : ch.before.length ≤ 200) (h2 : ch.after.length ≤ 200) :
    Calls Try.prog 30 #[.agg (chgV ch m)] w (RetBytes 5 (chgL ch) w) := by
  have kb := Blk.new w 27 (chgV ch m)
  have hb := below_alloc w (.cells (chgV ch m) 27)
  have hc := h.below (hb.mono hB)
  have HE : ∀ f : Nat, f < 256 → flagsN ch = f → putF 4 ch.page ++ putF 2 ch.slot ++ [f, ch.before.length] ++ ch.before ++ [ch.after.length] ++ ch.after = chgL ch := fun f hf e => chgL_eq ch f hf e (by omega) (by omega)
  have HF : flagsN ch = (if ch.had then 1 else 0) + (if ch.has then 2 else 0) := rfl
  go_enter Try.func30, Try.ntmps30
  go_upto_region 1 with fail
  generalize World.alloc w _ = W0 at *
  have hg := kb.lt
  have KB : Hid (∀ W, Below W0.heap.size W0 W → W.cell? ⟨w.heap.size, 0, none⟩ = some (.int .u32 (ch.page : Nat)) ∧ W.cell? ⟨w.heap.size, 1, none⟩ = some (.int .u16 (ch.slot : Nat)) ∧ W.cell? ⟨w.heap.size, 2, none⟩ = some (.bool ch.had) ∧ W.cell? ⟨w.heap.size, 3, none⟩ = some (.bool ch.has) ∧ W.cell? ⟨w.heap.size, 4, none⟩ = some (.slice m.A1 ch.before.length m.c1) ∧ W.cell? ⟨w.heap.size, 5, none⟩ = some (.slice m.A2 ch.after.length m.c2)) := Lib.hid fun W hW => by
    obtain ⟨k0, k1, k2, k3, k4, k5⟩ := ChgBox.of (kb.below hW hg)
    exact ⟨k0, k1, k2, k3, k4, k5⟩
  have HC : Hid (∀ W, Below W0.heap.size W0 W → Bytes W B m.A1 ch.before ∧ Bytes W B m.A2 ch.after) := Lib.hid fun W hW => ⟨hc.bef.below (hW.mono (Nat.le_trans hB hb.size)), hc.aft.below (hW.mono (Nat.le_trans hB hb.size))⟩
  have HB := Lib.hid hb
  have HE := Lib.hid HE
  have HF := Lib.hid HF
  obtain ⟨f0, f1, -, -⟩ := h.fits
  have k0 := (KB.out W0 (Below.refl _ _)).1
  clear kb hb hc h
  generalize chgL ch = L at *
  generalize flagsN ch = fl at *
  generalize ch.before = bef at *
  generalize ch.after = aft at *
  generalize ch.page = pg at *
  generalize ch.slot = sl at *
  generalize ch.had = had at *
  generalize ch.has = has at *
  have v1 : IntKind.u64.wrap (pg : Int) = (pg : Int) := by rw [IntKind.wrap_u64]; omega
  have v2 : IntKind.u64.wrap (sl : Int) = (sl : Int) := by rw [IntKind.wrap_u64]; omega
  go_wp2_with fail
  refine (refputn_any pg 4 W0 (by omega) (by omega) (by omega)).mono ?_
  rintro e w1 ⟨A1, c1, rfl, o1, b1⟩
  have r1 := RB.of_ret (Below.refl _ W0) o1 b1 (putF_small 4 pg) (putF_length 4 pg)
  have k1 := (KB.out w1 r1.2.1).2.1
  clear o1 b1 k0 v1
  go_wp2_with fail
  refine (refputn_any sl 2 w1 (by omega) (by omega) (by omega)).mono ?_
  rintro e v2' ⟨B2, d2, rfl, o2, b2⟩
  have q2 := r1.keep b2
  have x2 := own_bytes o2 (putF_small 2 sl)
  clear o2 b2 r1 k1 v2
  go_upto_region 3 with (at_builtin; refine wpList_append_rb rfl _ _ 25 25 rfl Try.underlying25 Try.underlying25 q2 rfl v2'.heap.size B2 2 d2 (putF 2 sl) rfl x2 (putF_length _ _) (by omega) ?_; intro A2 c2 w2 r2; clear q2 x2)
  have kk := KB.out w2 r2.2.1
  obtain ⟨-, -, k2, k3, k4, -⟩ := kk
  obtain ⟨nb, hnb⟩ : ∃ nb, bef.length = nb := ⟨_, rfl⟩
  obtain ⟨na, hna⟩ : ∃ na, aft.length = na := ⟨_, rfl⟩
  rw [hnb] at h1 k4
  rw [hna] at h2
  have HN := Lib.hid (And.intro hnb hna)
  clear hnb hna
  have g1 : IntKind.u8.wrap (nb : Int) = (nb : Int) := by rw [IntKind.wrap_u8]; omega
  have g2 : (nb : Int) % 256 = (nb : Int) := by omega
  have g3 : IntKind.u8.wrap (na : Int) = (na : Int) := by rw [IntKind.wrap_u8]; omega
  have g4 : (na : Int) % 256 = (na : Int) := by omega
  have FL : ∃ f : Nat, f < 256 ∧ fl = f ∧ ((had = false ∧ has = false ∧ f = 0) ∨ (had = true ∧ has = false ∧ f = 1) ∨ (had = false ∧ has = true ∧ f = 2) ∨ (had = true ∧ has = true ∧ f = 3)) := by
    rw [HF.out]
    cases had <;> cases has <;> simp
  obtain ⟨f, hf, hfl, FL⟩ := FL
  have HFL := Lib.hid (And.intro hf hfl)
  clear hfl hf
  rcases FL with ⟨rfl, rfl, rfl⟩ | ⟨rfl, rfl, rfl⟩ | ⟨rfl, rfl, rfl⟩ | ⟨rfl, rfl, rfl⟩
  all_goals
    go_upto_region 9 with (at_builtin; refine wpList_append_rb rfl _ _ 25 25 rfl Try.underlying25 Try.underlying25 (r2.alloc _) rfl (w2.heap.size + 1) (some ⟨w2.heap.size, 0, none⟩) 2 2 [_, nb] rfl (two_bytes w2 HFL.out.1 (by omega)) rfl (by omega) ?_; intro A3 c3 w3 r3; clear r2)
    have kk := KB.out w3 r3.2.1
    obtain ⟨-, -, -, -, k4', -⟩ := kk
    rw [HN.out.1] at k4'
    have xb := (HC.out w3 r3.2.1).1
    clear k2 k3 k4
    go_upto_region 10 with (at_builtin; refine wpList_append_rb rfl _ _ 25 25 rfl Try.underlying25 Try.underlying25 r3 rfl B m.A1 nb m.c1 bef rfl xb HN.out.1 (by omega) ?_; intro A4 c4 w4 r4; clear r3 xb)
    have kk := KB.out w4 r4.2.1
    obtain ⟨-, -, -, -, -, k5⟩ := kk
    rw [HN.out.2] at k5
    clear k4'
    go_upto_region 11 with (at_builtin; refine wpList_append_rb rfl _ _ 25 25 rfl Try.underlying25 Try.underlying25 (r4.alloc _) rfl (w4.heap.size + 1) (some ⟨w4.heap.size, 0, none⟩) 1 1 [na] rfl (one_bytes w4 (by omega)) rfl (by omega) ?_; intro A5 c5 w5 r5; clear r4)
    have kk := KB.out w5 r5.2.1
    obtain ⟨-, -, -, -, -, k5'⟩ := kk
    rw [HN.out.2] at k5'
    have xa := (HC.out w5 r5.2.1).2
    clear k5
    go_wp2_with (at_builtin; refine wpList_append_rb rfl _ _ 25 25 rfl Try.underlying25 Try.underlying25 r5 rfl B m.A2 na m.c2 aft rfl xa HN.out.2 (by omega) ?_; intro A6 c6 w6 r6; clear r5 xa)
    go_ret
    have hret := r6.ret HB.out
    rw [← HE.out _ HFL.out.1 HFL.out.2, HN.out.1, HN.out.2]
    exact hret
end Go.Proofs.Ythbaoljghofkoaa
