/- The laws' helpers heavy and plays. Conditions: as stated. -/
import Derived.Test.YtnbbneldbagohaaDiskKnown
import Derived.Test.YtnbbneldbagohaaDiskOps
namespace Go.Proofs.Ytnbbneldbagohaa
open Go.ChangeShapes Go.WideShapes Go.ChangeAt Go.RowKit
set_option linter.unusedVariables false
set_option linter.unusedSimpArgs false
set_option maxRecDepth 20000

def LightOps (a b : Int) (l : List OpP) : Prop := a ≤ 40 ∧ b ≤ 40 ∧ l.length ≤ 60 ∧ ∀ x ∈ l, x.data.length ≤ 200 ∧ x.fates.length ≤ 60
def HeavyPost (a b : Int) (l : List OpP) (w : World) (e : Ending) (w' : World) : Prop := (∃ r : Bool, e = .returned (.bool r) ∧ (r = false → LightOps a b l)) ∧ w = w'
set_option maxHeartbeats 1000000 in
theorem heavy_any (a b : Int) (A : Option Addr) (c : Nat) (l : List OpP) (B : Nat) (w : World) (h : OpsAt w B A l) :
    Calls Try.prog 15 #[.int .i64 a, .int .i64 b, .slice A l.length c] w (HeavyPost a b l w) := by
  have yes : HeavyPost a b l w (.returned (.bool true)) w := ⟨⟨true, rfl, fun h => by cases h⟩, rfl⟩
  have YES := Lib.hid yes
  clear yes
  by_cases ha : 40 < a
  · have t1 : decide ((40 : Int) < a) = true := by rw [decide_eq_true_iff]; exact ha
    go_enter Try.func15, Try.ntmps15
    go_wp2
    go_ret
    exact YES.out
  have t1 : decide ((40 : Int) < a) = false := by rw [decide_eq_false_iff_not]; exact ha
  by_cases hb : 40 < b
  · have t2 : decide ((40 : Int) < b) = true := by rw [decide_eq_true_iff]; exact hb
    go_enter Try.func15, Try.ntmps15
    go_wp2
    go_ret
    exact YES.out
  have t2 : decide ((40 : Int) < b) = false := by rw [decide_eq_false_iff_not]; exact hb
  rcases Nat.lt_or_ge 60 l.length with hl | hl
  · have t3 : decide ((60 : Int) < (l.length : Int)) = true := by rw [decide_eq_true_iff]; omega
    go_enter Try.func15, Try.ntmps15
    go_wp2
    go_ret
    exact YES.out
  have t3 : decide ((60 : Int) < (l.length : Int)) = false := by rw [decide_eq_false_iff_not]; omega
  go_enter Try.func15, Try.ntmps15
  go_wp2_with fail
  go_loop [7] (fun i => ∃ k : Nat, k ≤ l.length ∧ i = .int .i64 k ∧ Hid (∀ j (hj : j < l.length), j < k → l[j].data.length ≤ 200 ∧ l[j].fates.length ≤ 60)) (fun i => l.length - (intOf i).toNat)
  case atStart => exact ⟨0, Nat.zero_le _, rfl, fun j hj h => absurd h (by omega)⟩
  case round =>
    obtain ⟨k, hk, rfl, H⟩ := hrel
    rcases Nat.lt_or_ge k l.length with hlt | hge
    · have e1 : decide ((k : Int) < (l.length : Int)) = true := by rw [decide_eq_true_iff]; omega
      have e2 : (0 : Int) ≤ (k : Int) := by omega
      have e3 : (k : Int) < (l.length : Int) := by omega
      obtain ⟨bb, o, v0, v1, v2, v3, v4, rfl, -, -, -, -, c3, c4, -, -, -, ⟨A3, n3, rfl, -, -⟩, ⟨A4, n4, rfl, -⟩, -⟩ := h k hlt
      have HN : Hid (l[k].data.length ≤ 200 → l[k].fates.length ≤ 60 → ∀ j (hj : j < l.length), j < k + 1 → l[j].data.length ≤ 200 ∧ l[j].fates.length ≤ 60) := fun y1 y2 j hj hjk => by
        rcases Nat.lt_or_ge j k with z | z
        · exact H.out j hj z
        · obtain rfl : j = k := by omega
          exact ⟨y1, y2⟩
      clear h H
      generalize l[k].data.length = p at *
      generalize l[k].fates.length = q at *
      rcases Nat.lt_or_ge 200 p with y1 | y1
      · have g1 : decide ((200 : Int) < (p : Int)) = true := by rw [decide_eq_true_iff]; omega
        go_wp2
        go_ret
        exact YES.out
      · have g1 : decide ((200 : Int) < (p : Int)) = false := by rw [decide_eq_false_iff_not]; omega
        rcases Nat.lt_or_ge 60 q with y2 | y2
        · have g2 : decide ((60 : Int) < (q : Int)) = true := by rw [decide_eq_true_iff]; omega
          go_wp2
          go_ret
          exact YES.out
        · have g2 : decide ((60 : Int) < (q : Int)) = false := by rw [decide_eq_false_iff_not]; omega
          go_wp2
          go_round
          case rel => exact ⟨k + 1, by omega, by go_num, HN.out y1 y2⟩
          case measure => simp [intOf]; omega
    · obtain rfl : k = l.length := by omega
      have e1 : decide ((l.length : Int) < (l.length : Int)) = false := by rw [decide_eq_false_iff_not]; omega
      have hno : HeavyPost a b l w (.returned (.bool false)) w := ⟨⟨false, rfl, fun _ => ⟨by omega, by omega, hl, fun x hx => by
        obtain ⟨j, hj, rfl⟩ := List.mem_iff_getElem.1 hx
        exact H.out j hj hj⟩⟩, rfl⟩
      have NO := Lib.hid hno
      clear hno h H
      go_wp2
      go_ret
      exact NO.out
/-- Write or Sync, by the call -/
def DevP.plays (D : DevP) (x : OpP) : Bool × DevP :=
  if x.kind % 9 < 3 then (decide ((D.write x.file x.sector (fullL x.data)).1 = 0), (D.write x.file x.sector (fullL x.data)).2)
  else if x.kind % 9 = 3 then (decide ((D.write x.file x.sector x.data).1 = 0), (D.write x.file x.sector x.data).2)
  else if x.kind % 9 = 5 then (true, D.sync x.file) else (true, D)
theorem DevP.good.plays {D : DevP} {N : Nat} (h : D.good N) (x : OpP) : (D.plays x).2.good (N + 1) := by
  unfold DevP.plays
  split
  · exact h.write _ _ _
  · split
    · exact h.write _ _ _
    · split
      · exact (h.sync _).mono (Nat.le_succ N)
      · exact h.mono (Nat.le_succ N)
theorem DevPost.from {D' : DevP} {F : Nat → Prop} {p : Value} {w w1 w2 : World} (h : DevPost D' F p w1 w2) (hb : Below w.heap.size w w1) : DevPost D' F p w w2 :=
  ⟨h.1.mono fun b q => q.imp id fun z => ⟨Nat.le_trans hb.size z.1, z.2⟩, (Only.of_below hb F).trans h.2 fun b q => .inl q⟩
def PlaysPost (D : DevP) (x : OpP) (F : Nat → Prop) (p : Value) (w : World) (e : Ending) (w' : World) : Prop := e = .returned (.bool (D.plays x).1) ∧ DevPost (D.plays x).2 F p w w'
theorem wr_bool (n : Nat) : ((n : Int) == 0) = decide (n = 0) := by
  rw [Bool.eq_iff_iff, beq_iff_eq, decide_eq_true_iff]; omega
set_option maxHeartbeats 1000000 in
theorem plays_any {D : DevP} {w : World} {F : Nat → Prop} {gp : Nat} (h : IsDev D w F (.pointer (some ⟨gp, 0, none⟩))) (hF : ∀ b, F b → b < w.heap.size) {N : Nat} (hG : D.good N) (hN : N ≤ 90000) {B : Nat} (hB : B ≤ w.heap.size) (x : OpP) (hlo : x.kind % 9 = 3 → ∀ b, F b → B ≤ b) (v0 v1 v2 v3 v4 : Value) (hx : OpV w B x v0 v1 v2 v3 v4) :
    Calls Try.prog 17 #[.pointer (some ⟨gp, 0, none⟩), .agg #[v0, v1, v2, v3, v4]] w (PlaysPost D x F (.pointer (some ⟨gp, 0, none⟩)) w) := by
  obtain ⟨rfl, rfl, rfl, ⟨A3, c3, rfl, hc3, b3⟩, ⟨A4, c4, rfl, b4⟩, hk, hfl, hs⟩ := hx
  obtain ⟨kind, file, sector, data, fates⟩ := x
  simp only at hk hfl hs b3 b4 hc3 ⊢
  have kb := Blk.new w 41 #[.int .u8 kind, .int .u8 file, .int .i64 sector, .slice A3 data.length c3, .slice A4 fates.length c4]
  have a0 := (Below.refl w.heap.size w).alloc (Nat.le_refl _) (.cells #[.int .u8 kind, .int .u8 file, .int .i64 sector, .slice A3 data.length c3, .slice A4 fates.length c4] 41)
  obtain ⟨m, hm⟩ : ∃ m, kind % 9 = m := ⟨_, rfl⟩
  have hm9 : m < 9 := by omega
  have r1 : (kind : Int) % 9 = (m : Int) := by omega
  have r2 : Int.tmod (kind : Int) 9 = (m : Int) := by rw [Int.tmod_eq_emod_of_nonneg (by omega)]; exact r1
  have hd0 := h.below a0
  have hF0 : ∀ b, F b → b < (w.alloc (.cells #[.int .u8 kind, .int .u8 file, .int .i64 sector, .slice A3 data.length c3, .slice A4 fates.length c4] 41)).heap.size := fun b q => Nat.lt_of_lt_of_le (hF b q) a0.size
  have hnb : ¬ F w.heap.size := fun q => by have := hF _ q; omega
  have y3 := b3.below (a0.mono hB)
  have hB0 := Nat.le_trans hB a0.size
  rcases (show (m = 0 ∨ m = 1 ∨ m = 2) ∨ m = 3 ∨ m = 5 ∨ (m = 4 ∨ m = 6 ∨ m = 7 ∨ m = 8) from by omega) with z | z | z | z
  · have hP : D.plays ⟨kind, file, sector, data, fates⟩ = (decide ((D.write file sector (fullL data)).1 = 0), (D.write file sector (fullL data)).2) := by
      unfold DevP.plays
      rw [if_pos (by simp only; omega)]
    have fin : ∀ w2, DevPost (D.write file sector (fullL data)).2 F (.pointer (some ⟨gp, 0, none⟩)) w w2 → PlaysPost D ⟨kind, file, sector, data, fates⟩ F (.pointer (some ⟨gp, 0, none⟩)) w (.returned (.bool (decide ((D.write file sector (fullL data)).1 = 0)))) w2 := fun w2 hh => by
      unfold PlaysPost
      rw [hP]
      exact ⟨rfl, hh⟩
    have FIN := Lib.hid fin
    have hq := wr_bool (D.write file sector (fullL data)).1
    have fc := full_any A3 c3 data B (w.alloc (.cells #[.int .u8 kind, .int .u8 file, .int .i64 sector, .slice A3 data.length c3, .slice A4 fates.length c4] 41)).drew (y3.below ((Below.refl _ _).drew)) hB0
    clear hP hm fin
    rcases z with rfl | rfl | rfl
    all_goals
      go_enter Try.func17, Try.ntmps17
      go_wp2_with fail
      generalize World.alloc w _ = w1 at *
      have q1 := kb.cell 1
      have q2 := kb.cell 2
      have q3 := kb.cell 3
      have hkl := kb.lt
      have hS : Hid (∀ W, Only F w1 W → W.cell? ⟨w.heap.size, 1, none⟩ = some (.int .u8 file) ∧ W.cell? ⟨w.heap.size, 2, none⟩ = some (.int .i64 sector) ∧ W.cell? ⟨w.heap.size, 3, none⟩ = some (.slice A3 data.length c3)) := fun W hW => ⟨(hW.cell (p := ⟨w.heap.size, 1, none⟩) hkl hnb).trans q1, (hW.cell (p := ⟨w.heap.size, 2, none⟩) hkl hnb).trans q2, (hW.cell (p := ⟨w.heap.size, 3, none⟩) hkl hnb).trans q3⟩
      clear q1 q2 q3
      go_region_held3 (fun w' => w'.cell? ⟨w.heap.size, 1, none⟩ = some (.int .u8 file) ∧ w'.cell? ⟨w.heap.size, 2, none⟩ = some (.int .i64 sector) ∧ w'.cell? ⟨w.heap.size, 3, none⟩ = some (.slice A3 data.length c3)) (first | exact hS.out _ (Only.of_below (below_drew0 w1) _) | exact hS.out _ ho2 | exact hS.out _ (ho2.trans hp3.2 fun b q => .inl q)) (first
        | ((with_reducible refine fc.mono ?_); rintro e w2 ⟨A2, c2, rfl, o2, bb2, s2⟩; have hbw : Below w1.heap.size w1 w2 := (below_drew0 w1).trans bb2; have ho2 : Only F w1 w2 := Only.of_below hbw F; have x2 : BytesIn w2 (fun b => ¬ F b) A2 (fullL data) := out_own (w := w1) o2 s2 hF0; have wc := write_any (hd0.below hbw) (fun b q => Nat.lt_of_lt_of_le (hF0 b q) hbw.size) hG (by omega) file hfl sector A2 c2 (fullL data) x2)
        | ((with_reducible refine wc.mono ?_); rintro e w3 ⟨rfl, hp3⟩)
        | fail)
      all_goals
        go_wp2
        go_ret
        exact FIN.out _ (hp3.from (a0.trans (hbw.mono a0.size)))
  · have hP : D.plays ⟨kind, file, sector, data, fates⟩ = (decide ((D.write file sector data).1 = 0), (D.write file sector data).2) := by
      unfold DevP.plays
      rw [if_neg (by simp only; omega), if_pos (by simp only; omega)]
    have fin : ∀ w2, DevPost (D.write file sector data).2 F (.pointer (some ⟨gp, 0, none⟩)) w w2 → PlaysPost D ⟨kind, file, sector, data, fates⟩ F (.pointer (some ⟨gp, 0, none⟩)) w (.returned (.bool (decide ((D.write file sector data).1 = 0)))) w2 := fun w2 hh => by
      unfold PlaysPost
      rw [hP]
      exact ⟨rfl, hh⟩
    have FIN := Lib.hid fin
    have hq := wr_bool (D.write file sector data).1
    have hm3 : kind % 9 = 3 := by omega
    clear hP hm fin
    subst z
    go_enter Try.func17, Try.ntmps17
    go_wp2_with fail
    generalize World.alloc w _ = w1 at *
    have wc := write_any hd0 hF0 hG (by omega) file hfl sector A3 c3 data (out_args y3 hB0 (hlo hm3))
    refine wc.mono ?_
    rintro e w3 ⟨rfl, hp3⟩
    clear wc
    go_wp2
    go_ret
    exact FIN.out _ (hp3.from a0)
  · have hP : D.plays ⟨kind, file, sector, data, fates⟩ = (true, D.sync file) := by
      unfold DevP.plays
      rw [if_neg (by simp only; omega), if_neg (by simp only; omega), if_pos (by simp only; omega)]
    have fin : ∀ w2, DevPost (D.sync file) F (.pointer (some ⟨gp, 0, none⟩)) w w2 → PlaysPost D ⟨kind, file, sector, data, fates⟩ F (.pointer (some ⟨gp, 0, none⟩)) w (.returned (.bool true)) w2 := fun w2 hh => by
      unfold PlaysPost
      rw [hP]
      exact ⟨rfl, hh⟩
    have FIN := Lib.hid fin
    clear hP hm fin
    subst z
    go_enter Try.func17, Try.ntmps17
    go_wp2_with fail
    generalize World.alloc w _ = w1 at *
    have wc := sync_any hd0 hF0 hG (by omega) file hfl
    refine wc.mono ?_
    rintro e w3 ⟨rfl, hp3⟩
    clear wc
    go_wp2
    go_ret
    exact FIN.out _ (hp3.from a0)
  · have hP : D.plays ⟨kind, file, sector, data, fates⟩ = (true, D) := by
      unfold DevP.plays
      rw [if_neg (by simp only; omega), if_neg (by simp only; omega), if_neg (by simp only; omega)]
    have fin : ∀ w2, DevPost D F (.pointer (some ⟨gp, 0, none⟩)) w w2 → PlaysPost D ⟨kind, file, sector, data, fates⟩ F (.pointer (some ⟨gp, 0, none⟩)) w (.returned (.bool true)) w2 := fun w2 hh => by
      unfold PlaysPost
      rw [hP]
      exact ⟨rfl, hh⟩
    have FIN := Lib.hid fin
    clear hP hm fin
    rcases z with rfl | rfl | rfl | rfl
    all_goals
      go_enter Try.func17, Try.ntmps17
      go_wp2_with fail
      generalize World.alloc w _ = w1 at *
      go_ret
      exact FIN.out _ ((DevPost.refl hd0).from a0)
end Go.Proofs.Ytnbbneldbagohaa
