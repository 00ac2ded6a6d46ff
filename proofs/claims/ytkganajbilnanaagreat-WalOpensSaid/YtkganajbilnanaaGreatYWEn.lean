/- wal's law: entries in memory. Conditions: none. -/
import Derived.Test.YtkganajbilnanaaGreatYWV
set_option linter.unusedVariables false
set_option linter.unusedSimpArgs false
namespace Go.Proofs.YtkganajbilnanaaGreat
open Go.ChangeShapes Go.WideShapes Go.ChangeAt Go.RowKit
open NumMath
set_option maxRecDepth 20000
def entA (e : Nat × RecP) (m : RecMm) : List Value := .int .u64 (e.1 : Nat) :: (recA e.2 m).toList
theorem entA_length (e : Nat × RecP) (m : RecMm) : (entA e m).length = 13 := rfl
def entsA : List (Nat × RecP) → List RecMm → List Value
  | e :: es, m :: ms => entA e m ++ entsA es ms
  | _, _ => []
theorem entsA_one : ∀ (es : List (Nat × RecP)) (ms : List RecMm), ms.length = es.length → ∀ u ∈ entsA es ms, u.oneCell' = true
  | [], [], _, u, hu => by cases hu
  | e :: es, m :: ms, h, u, hu => by
    rcases List.mem_append.1 hu with q | q
    · simp only [entA, recA, List.mem_cons, List.toList_toArray, List.not_mem_nil, or_false] at q
      rcases q with q | q | q | q | q | q | q | q | q | q | q | q | q <;> (rw [q]; rfl)
    · exact entsA_one es ms (by simpa using h) u q
  | [], _ :: _, h, _, _ => by cases h
  | _ :: _, [], h, _, _ => by cases h
theorem entsA_snoc : ∀ (es : List (Nat × RecP)) (ms : List RecMm) (e : Nat × RecP) (m : RecMm), ms.length = es.length → entsA (es ++ [e]) (ms ++ [m]) = entsA es ms ++ entA e m
  | [], [], e, m, _ => by show entA e m ++ [] = [] ++ entA e m; rw [List.append_nil, List.nil_append]
  | x :: es, y :: ms, e, m, h => by
    show entA x y ++ entsA (es ++ [e]) (ms ++ [m]) = (entA x y ++ entsA es ms) ++ entA e m
    rw [entsA_snoc es ms e m (by simpa using h), List.append_assoc]
  | [], _ :: _, _, _, h => by cases h
  | _ :: _, [], _, _, h => by cases h
theorem entsA_at : ∀ (es : List (Nat × RecP)) (ms : List RecMm) (j : Nat) (e : Nat × RecP) (m : RecMm) (i : Nat) (v : Value), ms.length = es.length → es[j]? = some e → ms[j]? = some m → (entA e m)[i]? = some v → (entsA es ms)[j * 13 + i]? = some v
  | x :: es, y :: ms, 0, e, m, i, v, h, he, hm, hv => by
    injection he with he
    injection hm with hm
    subst he
    subst hm
    show (entA x y ++ entsA es ms)[0 * 13 + i]? = _
    have : i < 13 := (List.getElem?_eq_some_iff.1 hv).1
    rw [List.getElem?_append_left (by rw [entA_length]; omega), show 0 * 13 + i = i by omega]
    exact hv
  | x :: es, y :: ms, j + 1, e, m, i, v, h, he, hm, hv => by
    show (entA x y ++ entsA es ms)[(j + 1) * 13 + i]? = _
    rw [List.getElem?_append_right (by rw [entA_length]; omega), entA_length, show (j + 1) * 13 + i - 13 = j * 13 + i by omega]
    exact entsA_at es ms j e m i v (by simpa using h) he hm hv
  | [], [], _, _, _, _, _, _, he, _, _ => by simp at he
  | [], _ :: _, _, _, _, _, _, h, _, _, _ => by cases h
  | _ :: _, [], _, _, _, _, _, h, _, _, _ => by cases h
def entsP (p : Nat) : List RecP → List (Nat × RecP)
  | [] => []
  | r :: rs => (p, r) :: entsP (p + (encL r).length) rs
theorem entsP_length (rs : List RecP) : ∀ p, (entsP p rs).length = rs.length := by
  induction rs with
  | nil => exact fun _ => rfl
  | cons r rs ih => exact fun p => by simp [entsP, ih]
theorem entsP_at (rs : List RecP) : ∀ (p k : Nat) (hk : k < rs.length), (entsP p rs)[k]? = some (p + offK rs k, rs[k]) := by
  induction rs with
  | nil => intro p k h; cases h
  | cons r rs ih =>
    intro p k h
    cases k with
    | zero => rfl
    | succ k =>
      show (entsP (p + (encL r).length) rs)[k]? = _
      rw [ih _ k (by simpa using h), offK_cons, Nat.add_assoc]
      rfl
theorem entry_info : (Tryz.prog.info? 158).map (fun i => (i.zero, i.size, i.bytes)) = some (some (.agg #[.int .u64 0, .int .u8 0, .int .u32 0, .int .u64 0, .int .u64 0, .int .u32 0, .int .u16 0, .bool false, .bool false, .slice none 0 0, .slice none 0 0, .slice none 0 0, .slice none 0 0]), 13, 136) := by kernel_rfl
theorem below_drew8 (w : World) (B : Nat) : Below B w w.drew := Drew.below ⟨1, rfl⟩ B
def EntsAt (w : World) (B : Nat) (A : Option Addr) (es : List (Nat × RecP)) : Prop :=
  ∀ j (h : j < es.length), ∃ b o m, A = some ⟨b, o, none⟩ ∧ b < B ∧ (∀ i v, (entA es[j] m)[i]? = some v → w.cell? ⟨b, o + j * 13 + i, none⟩ = some v) ∧ RecAt w B es[j].2 m
theorem EntsAt.below {w w' : World} {B : Nat} {A : Option Addr} {es : List (Nat × RecP)} (h : EntsAt w B A es) (hb : Below B w w') : EntsAt w' B A es := fun j hj => by
  obtain ⟨b, o, m, e, h0, hc, hr⟩ := h j hj
  exact ⟨b, o, m, e, h0, fun i v q => (hb.cell (p := ⟨b, _, none⟩) h0).trans (hc i v q), hr.below hb⟩
theorem EntsAt.more {w : World} {B B' : Nat} {A : Option Addr} {es : List (Nat × RecP)} (h : EntsAt w B A es) (hB : B ≤ B') : EntsAt w B' A es := fun j hj => by
  obtain ⟨b, o, m, e, h0, hc, hr⟩ := h j hj
  exact ⟨b, o, m, e, by omega, hc, hr.more hB⟩
theorem ents_read {w : World} {B0 B n : Nat} {v : Value} {es : List (Nat × RecP)} {ms : List RecMm} (h1 : ms.length = es.length) (h2 : w.ownsRow B0 158 13 v es.length (entsA es ms)) (hB : w.heap.size ≤ B) (h3 : ∀ (i : Nat) (e : Nat × RecP) (m : RecMm), es[i]? = some e → ms[i]? = some m → RecAt w B e.2 m) :
    ∃ A c, v = .slice A es.length c ∧ EntsAt w B A es := by
  obtain ⟨A, c, rfl, hc, -⟩ := own_form h2
  refine ⟨A, c, rfl, fun j hj => ?_⟩
  obtain ⟨g, rfl, hg1, hg2⟩ := own_pos h2 (by omega)
  have hjm : j < ms.length := by omega
  refine ⟨g, 0, ms[j], rfl, by omega, fun i v hv => ?_, h3 j _ _ (List.getElem?_eq_getElem hj) (List.getElem?_eq_getElem hjm)⟩
  have hi : i < 13 := (List.getElem?_eq_some_iff.1 hv).1
  rw [show 0 + j * 13 + i = j * 13 + i by omega, h2.cellAt (j * 13 + i) (by omega)]
  exact entsA_at es ms j _ _ i v h1 (List.getElem?_eq_getElem hj) (List.getElem?_eq_getElem hjm) hv
set_option maxHeartbeats 8000000 in
theorem sames_any {es : List (Nat × RecP)} {A A' : Option Addr} (c c' B : Nat) {w : World} (h : EntsAt w B A es) (h' : EntsAt w B A' es) (hB : B ≤ w.heap.size) (hg : ∀ e ∈ es, e.2.txns.length ≤ 100000 ∧ e.2.pages.length ≤ 100000) (hn : es.length ≤ 100000) :
    Calls Tryz.prog 51 #[.slice A es.length c, .slice A' es.length c'] w fun e w' => e = .returned (.bool true) ∧ Below w.heap.size w w' := by
  obtain ⟨n, hnn⟩ : ∃ n, es.length = n := ⟨_, rfl⟩
  have HH := Lib.hid h
  have HH' := Lib.hid h'
  have HN := Lib.hid hnn
  have HG := Lib.hid hg
  rw [hnn]
  rw [hnn] at hn
  clear h h' hnn hg
  go_enter Tryz.func51, Tryz.ntmps51
  go_wp2_with fail
  go_loopw [5] (fun iv wr => ∃ (i : Nat), i ≤ n ∧ iv = .int .i64 (i : Nat) ∧ Below w.heap.size w wr) (fun iv _ => n - (intOf iv).toNat)
  case atStart => exact ⟨0, Nat.zero_le _, rfl, Below.refl _ _⟩
  case round =>
    obtain ⟨i, hi, rfl, hb⟩ := hrel
    rcases Nat.lt_or_ge i n with hlt | hge
    · have e1 : decide ((i : Int) < (n : Int)) = true := by rw [decide_eq_true_iff]; omega
      have e2 : (0 : Int) ≤ (i : Int) := by omega
      have e3 : (i : Int) < (n : Int) := by omega
      have hil : i < es.length := by rw [HN.out]; exact hlt
      obtain ⟨b1, o1, m1, rfl, hb1, hc1, hr1⟩ := (HH.out.below (hb.mono hB)) i hil
      obtain ⟨b2, o2, m2, rfl, hb2, hc2, hr2⟩ := (HH'.out.below (hb.mono hB)) i hil
      obtain ⟨hg1, hg2⟩ := HG.out es[i] (List.getElem_mem hil)
      generalize es[i] = x at *
      obtain ⟨l, r⟩ := x
      obtain ⟨q1, hq1⟩ : ∃ q, o1 + i * 13 = q := ⟨_, rfl⟩
      obtain ⟨q2, hq2⟩ : ∃ q, o2 + i * 13 = q := ⟨_, rfl⟩
      rw [hq1] at hc1
      rw [hq2] at hc2
      have hB2 : B ≤ wr.heap.size := Nat.le_trans hB hb.size
      have CEL : Hid (∀ W, Below B wr W → W.cell? ⟨b1, q1 + 1, none⟩ = some (.int .u8 (r.kind : Nat)) ∧ W.cell? ⟨b1, q1 + 2, none⟩ = some (.int .u32 (r.txn : Nat)) ∧ W.cell? ⟨b1, q1 + 3, none⟩ = some (.int .u64 (r.prev : Nat)) ∧ W.cell? ⟨b1, q1 + 4, none⟩ = some (.int .u64 (r.next : Nat)) ∧ W.cell? ⟨b1, q1 + 5, none⟩ = some (.int .u32 (r.chg.page : Nat)) ∧ W.cell? ⟨b1, q1 + 6, none⟩ = some (.int .u16 (r.chg.slot : Nat)) ∧ W.cell? ⟨b1, q1 + 7, none⟩ = some (.bool r.chg.had) ∧ W.cell? ⟨b1, q1 + 8, none⟩ = some (.bool r.chg.has) ∧ W.cell? ⟨b1, q1 + 9, none⟩ = some (.slice m1.cm.A1 r.chg.before.length m1.cm.c1) ∧ W.cell? ⟨b1, q1 + 10, none⟩ = some (.slice m1.cm.A2 r.chg.after.length m1.cm.c2) ∧ W.cell? ⟨b1, q1 + 11, none⟩ = some (.slice m1.A3 r.txns.length m1.c3) ∧ W.cell? ⟨b1, q1 + 12, none⟩ = some (.slice m1.A4 r.pages.length m1.c4) ∧ W.cell? ⟨b2, q2 + 1, none⟩ = some (.int .u8 (r.kind : Nat)) ∧ W.cell? ⟨b2, q2 + 2, none⟩ = some (.int .u32 (r.txn : Nat)) ∧ W.cell? ⟨b2, q2 + 3, none⟩ = some (.int .u64 (r.prev : Nat)) ∧ W.cell? ⟨b2, q2 + 4, none⟩ = some (.int .u64 (r.next : Nat)) ∧ W.cell? ⟨b2, q2 + 5, none⟩ = some (.int .u32 (r.chg.page : Nat)) ∧ W.cell? ⟨b2, q2 + 6, none⟩ = some (.int .u16 (r.chg.slot : Nat)) ∧ W.cell? ⟨b2, q2 + 7, none⟩ = some (.bool r.chg.had) ∧ W.cell? ⟨b2, q2 + 8, none⟩ = some (.bool r.chg.has) ∧ W.cell? ⟨b2, q2 + 9, none⟩ = some (.slice m2.cm.A1 r.chg.before.length m2.cm.c1) ∧ W.cell? ⟨b2, q2 + 10, none⟩ = some (.slice m2.cm.A2 r.chg.after.length m2.cm.c2) ∧ W.cell? ⟨b2, q2 + 11, none⟩ = some (.slice m2.A3 r.txns.length m2.c3) ∧ W.cell? ⟨b2, q2 + 12, none⟩ = some (.slice m2.A4 r.pages.length m2.c4)) := Lib.hid fun W hW => by
        have k1 := fun i v (q : (entA (l, r) m1)[i]? = some v) => (hW.cell (p := ⟨b1, q1 + i, none⟩) hb1).trans (hc1 i v q)
        have k2 := fun i v (q : (entA (l, r) m2)[i]? = some v) => (hW.cell (p := ⟨b2, q2 + i, none⟩) hb2).trans (hc2 i v q)
        exact ⟨k1 1 _ rfl, k1 2 _ rfl, k1 3 _ rfl, k1 4 _ rfl, k1 5 _ rfl, k1 6 _ rfl, k1 7 _ rfl, k1 8 _ rfl, k1 9 _ rfl, k1 10 _ rfl, k1 11 _ rfl, k1 12 _ rfl, k2 1 _ rfl, k2 2 _ rfl, k2 3 _ rfl, k2 4 _ rfl, k2 5 _ rfl, k2 6 _ rfl, k2 7 _ rfl, k2 8 _ rfl, k2 9 _ rfl, k2 10 _ rfl, k2 11 _ rfl, k2 12 _ rfl⟩
      have x0 := CEL.out wr.drew (below_drew8 wr B)
      have L1 : Hid (∀ W, Below B wr W → W.cell? ⟨b1, q1, none⟩ = some (.int .u64 (l : Nat)) ∧ W.cell? ⟨b2, q2, none⟩ = some (.int .u64 (l : Nat))) := Lib.hid fun W hW => ⟨(hW.cell (p := ⟨b1, q1, none⟩) hb1).trans (hc1 0 _ rfl), (hW.cell (p := ⟨b2, q2, none⟩) hb2).trans (hc2 0 _ rfl)⟩
      have csm : Calls Tryz.prog 50 #[.agg #[.int .u8 (r.kind : Nat), .int .u32 (r.txn : Nat), .int .u64 (r.prev : Nat), .int .u64 (r.next : Nat), .int .u32 (r.chg.page : Nat), .int .u16 (r.chg.slot : Nat), .bool r.chg.had, .bool r.chg.has, .slice m1.cm.A1 r.chg.before.length m1.cm.c1, .slice m1.cm.A2 r.chg.after.length m1.cm.c2, .slice m1.A3 r.txns.length m1.c3, .slice m1.A4 r.pages.length m1.c4], .agg #[.int .u8 (r.kind : Nat), .int .u32 (r.txn : Nat), .int .u64 (r.prev : Nat), .int .u64 (r.next : Nat), .int .u32 (r.chg.page : Nat), .int .u16 (r.chg.slot : Nat), .bool r.chg.had, .bool r.chg.has, .slice m2.cm.A1 r.chg.before.length m2.cm.c1, .slice m2.cm.A2 r.chg.after.length m2.cm.c2, .slice m2.A3 r.txns.length m2.c3, .slice m2.A4 r.pages.length m2.c4]] wr.drew (SamePost r r wr.drew) := same_rec r r m1 m2 B wr.drew (hr1.below (below_drew8 wr B)) (hr2.below (below_drew8 wr B)) hB2 hg1 hg2
      have HB := Lib.hid hb
      clear hr1 hr2 hc1 hc2 hg1 hg2 hil hb
      go_upto_region 6 with fail
      go_cut [6] (fun v6 wx => v6 = .bool true ∧ Below B wr wx ∧ wr.heap.size ≤ wx.heap.size ∧ Below wr.heap.size wr wx)
      case first =>
        go_wp2_with fail
        go_region_held3 (fun W => W.cell? ⟨b1, q1 + 1, none⟩ = some (.int .u8 (r.kind : Nat)) ∧ W.cell? ⟨b1, q1 + 2, none⟩ = some (.int .u32 (r.txn : Nat)) ∧ W.cell? ⟨b1, q1 + 3, none⟩ = some (.int .u64 (r.prev : Nat)) ∧ W.cell? ⟨b1, q1 + 4, none⟩ = some (.int .u64 (r.next : Nat)) ∧ W.cell? ⟨b1, q1 + 5, none⟩ = some (.int .u32 (r.chg.page : Nat)) ∧ W.cell? ⟨b1, q1 + 6, none⟩ = some (.int .u16 (r.chg.slot : Nat)) ∧ W.cell? ⟨b1, q1 + 7, none⟩ = some (.bool r.chg.had) ∧ W.cell? ⟨b1, q1 + 8, none⟩ = some (.bool r.chg.has) ∧ W.cell? ⟨b1, q1 + 9, none⟩ = some (.slice m1.cm.A1 r.chg.before.length m1.cm.c1) ∧ W.cell? ⟨b1, q1 + 10, none⟩ = some (.slice m1.cm.A2 r.chg.after.length m1.cm.c2) ∧ W.cell? ⟨b1, q1 + 11, none⟩ = some (.slice m1.A3 r.txns.length m1.c3) ∧ W.cell? ⟨b1, q1 + 12, none⟩ = some (.slice m1.A4 r.pages.length m1.c4) ∧ W.cell? ⟨b2, q2 + 1, none⟩ = some (.int .u8 (r.kind : Nat)) ∧ W.cell? ⟨b2, q2 + 2, none⟩ = some (.int .u32 (r.txn : Nat)) ∧ W.cell? ⟨b2, q2 + 3, none⟩ = some (.int .u64 (r.prev : Nat)) ∧ W.cell? ⟨b2, q2 + 4, none⟩ = some (.int .u64 (r.next : Nat)) ∧ W.cell? ⟨b2, q2 + 5, none⟩ = some (.int .u32 (r.chg.page : Nat)) ∧ W.cell? ⟨b2, q2 + 6, none⟩ = some (.int .u16 (r.chg.slot : Nat)) ∧ W.cell? ⟨b2, q2 + 7, none⟩ = some (.bool r.chg.had) ∧ W.cell? ⟨b2, q2 + 8, none⟩ = some (.bool r.chg.has) ∧ W.cell? ⟨b2, q2 + 9, none⟩ = some (.slice m2.cm.A1 r.chg.before.length m2.cm.c1) ∧ W.cell? ⟨b2, q2 + 10, none⟩ = some (.slice m2.cm.A2 r.chg.after.length m2.cm.c2) ∧ W.cell? ⟨b2, q2 + 11, none⟩ = some (.slice m2.A3 r.txns.length m2.c3) ∧ W.cell? ⟨b2, q2 + 12, none⟩ = some (.slice m2.A4 r.pages.length m2.c4))
          (first | with_reducible (exact x0) | with_reducible (exact x2) | fail)
          (first
            | ((with_reducible refine csm.mono ?_); rintro e w3 ⟨⟨bb, rfl, hbb⟩, hb3⟩; have ebb := hbb.2 rfl; subst ebb; have x2 := CEL.out w3 ((below_drew8 wr B).trans (hb3.mono hB2)); have H3 := Lib.hid hb3)
            | fail)
        all_goals
          go_wp2
          go_meet
          case rel => exact ⟨rfl, (below_drew8 wr B).trans (H3.out.mono hB2), H3.out.size, (below_drew8 wr _).trans H3.out⟩
      case rest =>
        rename World => wx
        obtain ⟨rfl, hbx, hsx, hbx2⟩ := hcut
        obtain ⟨y1, y2⟩ := L1.out wx hbx
        have HX := Lib.hid (HB.out.trans (hbx2.mono HB.out.size))
        clear hbx hbx2 CEL csm x0 L1 HB
        go_upto_region 7 with fail
        go_quiet (fail)
        go_wp2
        go_roundw
        case rel => exact ⟨i + 1, by omega, by go_num, HX.out.trans (Drew.below ⟨_, rfl⟩ _)⟩
        case measure => simp [intOf]; omega
    · obtain rfl : i = n := by omega
      have e1 : decide ((i : Int) < (i : Int)) = false := by rw [decide_eq_false_iff_not]; omega
      go_wp2
      go_ret
      exact ⟨rfl, hb⟩
def RecOut (w : World) (v : Value) (r : RecP) (m : RecMm) : Prop := ∀ W : World, w.heap.size ≤ W.heap.size → (∀ b, b < w.heap.size → v.ownBlock ≠ some b → W.heap[b]? = w.heap[b]?) → RecAt W W.heap.size r m
section
variable {w w' : World} {v v' : Value} {r : RecP} {m : RecMm}
theorem RecOut.at_ (h : RecOut w v r m) : RecAt w w.heap.size r m := h w (Nat.le_refl _) fun _ _ _ => rfl
theorem RecOut.below (h : RecOut w v r m) (hb : Below w.heap.size w w') : RecOut w' v r m := fun W hs hW =>
  h W (Nat.le_trans hb.size hs) fun b h1 h2 => (hW b (Nat.lt_of_lt_of_le h1 hb.size) h2).trans (hb.block b h1)
theorem RecOut.grown (h : RecOut w v r m) (hg : w.grownBy w' v.ownBlock) (hv : v'.ownBlock = v.ownBlock ∨ v'.ownBlock = some w.heap.size) : RecOut w' v' r m := fun W hs hW =>
  h W (Nat.le_trans hg.size hs) fun b h1 h2 => (hW b (Nat.lt_of_lt_of_le h1 hg.size) (by
    rcases hv with q | q
    · rw [q]; exact h2
    · rw [q]
      intro e
      injection e with e
      omega)).trans (hg.block b h1 (fun e => h2 e.symm))
theorem RecOut.from_ {lo : Nat} (h : RecFrom lo w r m) (hv : ∀ b, v.ownBlock = some b → b < lo) : RecOut w v r m := fun W hs hW =>
  h W fun b h1 h2 => hW b h2 fun e => by have := hv b e; omega
end
def EntsG (lo : Nat) (w : World) (v : Value) (es : List (Nat × RecP)) : Prop :=
  ∃ ms, ms.length = es.length ∧ w.ownsRow lo 158 13 v es.length (entsA es ms) ∧ ∀ (i : Nat) (e : Nat × RecP) (m : RecMm), es[i]? = some e → ms[i]? = some m → RecOut w v e.2 m
theorem EntsG.nil (lo : Nat) (w : World) : EntsG lo w (.slice none 0 0) [] := ⟨[], rfl, World.ownsRow_nil _ _ _ _, fun i e m h => by cases h⟩
theorem EntsG.below {lo : Nat} {w w' : World} {v : Value} {es : List (Nat × RecP)} (h : EntsG lo w v es) (hb : Below w.heap.size w w') : EntsG lo w' v es := by
  obtain ⟨ms, h1, h2, h3⟩ := h
  exact ⟨ms, h1, kept_none (below_none hb) h2, fun i e m q q' => (h3 i e m q q').below hb⟩
theorem EntsG.read {lo : Nat} {w : World} {v : Value} {es : List (Nat × RecP)} (h : EntsG lo w v es) : ∃ A c, v = .slice A es.length c ∧ EntsAt w w.heap.size A es := by
  obtain ⟨ms, h1, h2, h3⟩ := h
  exact ents_read (n := 0) h1 h2 (Nat.le_refl _) fun i e m q q' => (h3 i e m q q').at_
theorem wpList_snoc_ents2 {w : World} {B n c : Nat} {A : Option Addr} {xs : List Value} (hown : w.ownsRow B 158 13 (.slice A n c) n xs) (news : List Value) (hl : news.length = 13) (h1 : ∀ u ∈ news, u.oneCell' = true) (hn : n ≤ 100000) (hB : B ≤ w.heap.size)
    (t : TypeId) (f : Nat × Nat) {ops : Array Oper} {rest : List Oper} {o : Oper} {a : Act} {Q : Exit → Act → World → Prop} (hgd : o.guard = none) (s x : Operand)
    (ho : o.op = .call { callee := .builtin .append, args := #[s, x], argTypes := #[109, 109] }) (hs : a.eval s = .slice A n c) (hx : a.eval x = .slice (some ⟨w.heap.size, 0, none⟩) 1 1)
    (hK : ∀ A' c' w', w'.ownsRow B 158 13 (.slice A' (n + 1) c') (n + 1) (xs ++ news) → (w.alloc (.cells news.toArray t f)).grownBy w' (Value.slice A n c).ownBlock →
      ((Value.slice A' (n + 1) c').ownBlock = (Value.slice A n c).ownBlock ∨ (Value.slice A' (n + 1) c').ownBlock = some (w.alloc (.cells news.toArray t f)).heap.size) → wpList Tryz.prog ops Q rest (a.put o.dst (.slice A' (n + 1) c')) w') : wpList Tryz.prog ops Q (o :: rest) a (w.alloc (.cells news.toArray t f)) := by
  obtain ⟨i0, hi0, hz0, hz1, hz2⟩ := info_parts entry_info
  have hb := (Below.refl w.heap.size w).alloc (Nat.le_refl _) (.cells news.toArray t f)
  have how : (w.alloc (.cells news.toArray t f)).ownsRow B 158 13 (.slice A n c) n xs := kept_none (below_none hb) hown
  refine wpList_append_cells hgd s x 109 ho B 158 i0 _ 13 136 Tryz.underlying109 hi0 hz0 hz1 hz2 rfl (by omega) (.slice A n c) n xs hs how ⟨w.heap.size, 0, none⟩ 1 1 news hx (by omega) (new_row_cells w _ _ _) h1 (by unfold maxLen; omega) (by omega) (by rw [World.size_alloc]; omega) ?_
  intro A' c' w' q1 q2 q3
  exact hK A' c' w' q1 q2 q3
def EntsPost (lo : Nat) (w : World) (es : List (Nat × RecP)) (e : Ending) (w' : World) : Prop := Below lo w w' ∧ ∃ A c, e = .returned (.slice A es.length c) ∧ EntsAt w' w'.heap.size A es
set_option maxHeartbeats 8000000 in
theorem ents_any {L : LogP} {rs : List RecP} {D : DevP} {w : World} {F G : Nat → Prop} {gl : Nat} {pd sv st : Value} (h : Lg L D w F G gl pd sv st) (hk : L.fit rs) (lsn : Nat) (hlsn : lsn < 18446744073709551616) :
    Calls Tryz.prog 52 #[.pointer (some ⟨gl, 0, none⟩), .int .u64 (lsn : Nat)] w (EntsPost w.heap.size w ((entsP L.h.base rs).drop (atP L lsn).1)) := by
  have cat := at_lg h hk.ok lsn hlsn
  have hkn := atP_le (L := L) lsn
  obtain ⟨k, hkk⟩ : ∃ k, (atP L lsn).1 = k := ⟨_, rfl⟩
  obtain ⟨tt, htt⟩ : ∃ k, (atP L lsn).2 = k := ⟨_, rfl⟩
  rw [hkk, htt] at cat
  rw [hkk] at hkn
  rw [hkk]
  obtain ⟨As, cs, rfl, hcs, hps⟩ := h.log.places
  obtain ⟨n, hn⟩ : ∃ n, L.starts.length = n := ⟨_, rfl⟩
  have hn2 := hk.recs.cnt
  have hn3 := hk.ok.cnt
  have HL := Lib.hid h
  have HK := Lib.hid hk
  have HPS := Lib.hid hps
  rw [hn] at hkn hcs hn2 hn3
  have HN2 : Hid (n = rs.length) := Lib.hid hn2
  have HN : Hid (L.starts.length = n) := Lib.hid hn
  have HES : Hid (((entsP L.h.base rs).drop k).length = n - k) := Lib.hid (by rw [List.length_drop, entsP_length]; omega)
  have c5 : ∀ W, Drew w W → W.cell? ⟨gl, 8, none⟩ = some (.slice As n cs) := fun W hd => by
    have := (h.log.blk.below (hd.below w.heap.size) h.log.blk.lt).cell 8
    rw [hn] at this
    exact this
  have C5 := Lib.hid c5
  clear h hk hps hn hkk htt hn2 c5
  go_enter Tryz.func52, Tryz.ntmps52
  go_wp2_with fail
  refine cat.mono ?_
  rintro e w1 ⟨rfl, hd1⟩
  have c8 := C5.out w1 hd1
  have hb1 := hd1.below w.heap.size
  have HB1 := Lib.hid hb1
  clear cat C5 hd1 hb1
  rcases Nat.lt_or_ge k n with hlt | hge
  · have ck : (cs = k) = False := eq_false (by omega)
    have b1 : (0 : Int) ≤ (k : Int) := by omega
    have b2 : (k : Int) ≤ (n : Int) := by omega
    have b3 : (n : Int) ≤ (cs : Int) := by omega
    have b4 : (k : Int) ≤ (cs : Int) := by omega
    obtain ⟨ga, oa, rfl, hga, -⟩ := HPS.out k (by unfold placeV; rw [List.length_map, HN.out]; exact hlt)
    obtain ⟨d, hd⟩ : ∃ d, n - k = d := ⟨_, rfl⟩
    obtain ⟨o1, ho1⟩ : ∃ o, oa + k = o := ⟨_, rfl⟩
    have HD := Lib.hid hd
    have HO1 := Lib.hid ho1
    go_wp2_with fail
    obtain ⟨ES, hES⟩ : ∃ es, (entsP L.h.base rs).drop k = es := ⟨_, rfl⟩
    rw [hES] at HES
    have HEQ := Lib.hid hES
    have EAT : Hid (∀ j, j < d → ∀ r, rs[k + j]? = some r → ES[j]? = some (L.h.base + offK rs (k + j), r)) := Lib.hid fun j hj r hr => by
      have hkj := (List.getElem?_eq_some_iff.1 hr).1
      rw [← HEQ.out, List.getElem?_drop, entsP_at rs L.h.base (k + j) hkj]
      rw [List.getElem?_eq_getElem hkj] at hr
      rw [Option.some.inj hr]
    clear hES ck b1 b2 b3 b4 hd ho1
    go_loopw [7, 27] (fun v7 v27 wr => ∃ (i : Nat), i ≤ d ∧ v27 = .int .i64 (i : Nat) ∧ EntsG w.heap.size wr v7 (ES.take i) ∧ Below w.heap.size w wr) (fun _ iv _ => d - (intOf iv).toNat)
    case atStart => exact ⟨0, Nat.zero_le _, rfl, EntsG.nil _ _, HB1.out⟩
    case round =>
      obtain ⟨i, hi, rfl, hE, hb⟩ := hrel
      rcases Nat.lt_or_ge i d with hid | hge
      · have e1 : decide ((i : Int) < (d : Int)) = true := by rw [decide_eq_true_iff]; omega
        have e2 : (0 : Int) ≤ (i : Int) := by omega
        have e3 : (i : Int) < (d : Int) := by omega
        have hki : k + i < rs.length := by have := HD.out; have := HN2.out; omega
        have hki2 : k + i < L.starts.length := by have := HD.out; have := HN.out; omega
        have hLr := HL.out.below hb
        have hbase := HK.out.base
        have hle := offK_le rs (k + i)
        have hsl : (rs.flatMap encL).length = L.stream.length := by rw [HK.out.recs.stream]
        obtain ⟨x, hx⟩ : ∃ x, offK rs (k + i) = x := ⟨_, rfl⟩
        obtain ⟨bs, hbs⟩ : ∃ b, L.h.base = b := ⟨_, rfl⟩
        obtain ⟨q, hq⟩ : ∃ q, bs + x = q := ⟨_, rfl⟩
        have ca : wr.cell? ⟨ga, o1 + i, none⟩ = some (.int .i64 (x : Nat)) := by
          obtain ⟨b, o, e, h1, h2⟩ := HPS.out (k + i) (by unfold placeV; rw [List.length_map]; exact hki2)
          injection e with e
          injection e with e4 e5
          subst e4
          subst e5
          have h3 := (hb.cell (p := ⟨ga, oa + (k + i), none⟩) h1).trans h2
          rw [show oa + (k + i) = o1 + i by have := HO1.out; omega] at h3
          rw [h3]
          unfold placeV
          rw [List.getElem_map]
          have h4 := HK.out.recs.at_ hki
          rw [List.getElem?_eq_getElem hki2] at h4
          rw [Option.some.inj h4, hx]
        have cb : wr.cell? ⟨gl, 1, none⟩ = some (.int .u64 (bs : Nat)) := by
          have := hLr.log.blk.cell 1
          rw [← hbs]
          exact this
        have hq64 : q < 18446744073709551616 := by rw [hx, hsl] at hle; omega
        have v1 : IntKind.u64.wrap (x : Int) = (x : Int) := by rw [IntKind.wrap_u64]; omega
        have v2 : IntKind.u64.wrap ((bs : Int) + (x : Int)) = (q : Int) := by rw [IntKind.wrap_u64]; omega
        have crd := rd_any hLr HK.out q hq64
        obtain ⟨r, hr⟩ : ∃ r, rs[k + i]? = some r := ⟨_, List.getElem?_eq_getElem hki⟩
        have hes := EAT.out i hid r hr
        have HQ : Hid (q = L.h.base + offK rs (k + i)) := Lib.hid (by rw [hbs, hx]; exact hq.symm)
        have HES2 : Hid (ES[i]? = some (q, r)) := Lib.hid (by rw [HQ.out]; exact hes)
        have HR := Lib.hid hr
        have HKI := Lib.hid hki
        have HEG := Lib.hid hE
        have HB := Lib.hid hb
        clear hki hki2 hLr hbase hle hsl hx hbs hq hq64 hes hr hE hb
        go_wp2_with fail
        refine crd.mono ?_
        rintro e w5 ⟨hb5, hor⟩
        clear crd v1 v2 ca cb
        rcases hor with ⟨k', r', m, hr', hq', rfl, hfr⟩ | ⟨hno, -⟩
        rotate_left
        · exact absurd HQ.out (hno (k + i) HKI.out)
        have hkk : k' = k + i := by
          have h1 := HK.out.recs.hit (List.getElem?_eq_some_iff.1 hr').1
          have h2 := HK.out.recs.hit HKI.out
          rw [← hq'] at h1
          rw [← HQ.out] at h2
          have := congrArg Prod.fst (h1.symm.trans h2)
          exact this
        subst hkk
        have hrr := HR.out
        rw [hr'] at hrr
        injection hrr with hrr
        subst hrr
        have hs5 := HB.out.size
        have hE5 := HEG.out.below hb5
        obtain ⟨ms, hm1, hm2, hm3⟩ := HEG.out
        have hlen : (ES.take i).length = i := by rw [List.length_take, HES.out]; have := HD.out; omega
        rw [hlen] at hm1 hm2
        obtain ⟨A7, c7, rfl, -, -⟩ := own_form hm2
        have hnew : RecOut w5 (.slice A7 i c7) r' m := RecOut.from_ hfr fun b e => (hm2.lt b e).2
        have kx := Blk.new w5 51 (recA r' m)
        have hbx := below_alloc w5 (.cells (recA r' m) 51)
        have hst2 := store_rec_new w5 r' m
        have hown6 : (w5.alloc (.cells (recA r' m) 51)).ownsRow w.heap.size 158 13 (.slice A7 i c7) i (entsA (ES.take i) ms) := kept_none (below_none hbx) (kept_none (below_none hb5) hm2)
        have HB5 := Lib.hid hb5
        have HHM1 := Lib.hid hm1
        have HM3 := Lib.hid hm3
        have HNEW := Lib.hid hnew
        have HHL := Lib.hid hlen
        clear hr' hq' hfr hE5 hm1 hm2 hm3 hnew hlen
        go_upto_region 8 with (first
          | (refine wpList_store_run rfl 51 (.tmp 11) (.tmp 43) _ _ rfl rfl rfl hst2 ?_; clear hst2)
          | fail)
        generalize World.alloc w5 _ = w6 at *
        obtain ⟨g5, hg5⟩ : ∃ g, w5.heap.size = g := ⟨_, rfl⟩
        rw [hg5] at kx
        rw [hg5]
        have ldR : (Instr.loadAt 51 (.pointer (some ⟨g5, 0, none⟩))).run Tryz.prog w6 = .ok (.agg #[.int .u8 (r'.kind : Nat), .int .u32 (r'.txn : Nat), .int .u64 (r'.prev : Nat), .int .u64 (r'.next : Nat), .int .u32 (r'.chg.page : Nat), .int .u16 (r'.chg.slot : Nat), .bool r'.chg.had, .bool r'.chg.has, .slice m.cm.A1 r'.chg.before.length m.cm.c1, .slice m.cm.A2 r'.chg.after.length m.cm.c2, .slice m.A3 r'.txns.length m.c3, .slice m.A4 r'.pages.length m.c4]) w6 := load_rec kx
        have h1e : ∀ u ∈ entA (q, r') m, u.oneCell' = true := fun u hu => entsA_one [(q, r')] [m] rfl u (by show u ∈ entA (q, r') m ++ []; rw [List.append_nil]; exact hu)
        have hiL : i ≤ 100000 := by have := HD.out; omega
        have hB6 : w.heap.size ≤ w6.heap.size := Nat.le_trans hs5 (Nat.le_trans HB5.out.size hbx.size)
        have HBX := Lib.hid hbx
        have FIN : Hid (∀ A8 c8 w8, w8.ownsRow w.heap.size 158 13 (.slice A8 (i + 1) c8) (i + 1) (entsA (ES.take i) ms ++ entA (q, r') m) → (w6.alloc (.cells (entA (q, r') m).toArray 158 (0, 0))).grownBy w8 (Value.slice A7 i c7).ownBlock →
            ((Value.slice A8 (i + 1) c8).ownBlock = (Value.slice A7 i c7).ownBlock ∨ (Value.slice A8 (i + 1) c8).ownBlock = some (w6.alloc (.cells (entA (q, r') m).toArray 158 (0, 0))).heap.size) →
            EntsG w.heap.size w8 (.slice A8 (i + 1) c8) (ES.take (i + 1)) ∧ Below w.heap.size w w8) := Lib.hid fun A8 c8 w8 p1 p2 p3 => by
          have hb7 := (Below.refl w6.heap.size w6).alloc (Nat.le_refl _) (.cells (entA (q, r') m).toArray 158 (0, 0))
          have hbi : i < ES.length := by rw [HES.out]; have := HD.out; omega
          have htk : ES.take (i + 1) = ES.take i ++ [(q, r')] := by
            rw [List.take_succ_eq_append_getElem hbi]
            have := HES2.out
            rw [List.getElem?_eq_getElem hbi] at this
            rw [Option.some.inj this]
          refine ⟨⟨ms ++ [m], ?_, ?_, ?_⟩, ?_⟩
          · rw [htk, List.length_append, List.length_append, HHL.out, HHM1.out]; rfl
          · rw [htk, List.length_append, HHL.out, entsA_snoc _ _ _ _ (by rw [HHM1.out, HHL.out])]
            exact p1
          · intro j e mm hj hj'
            rw [htk] at hj
            rcases Nat.lt_or_ge j i with hji | hji
            · rw [List.getElem?_append_left (by rw [HHL.out]; exact hji)] at hj
              rw [List.getElem?_append_left (by rw [HHM1.out]; exact hji)] at hj'
              exact ((((HM3.out j e mm hj hj').below HB5.out).below HBX.out).below hb7).grown p2 p3
            · rw [List.getElem?_append_right (by rw [HHL.out]; exact hji), HHL.out] at hj
              rw [List.getElem?_append_right (by rw [HHM1.out]; exact hji), HHM1.out] at hj'
              have hj0 : j - i = 0 := by have := (List.getElem?_eq_some_iff.1 hj).1; simpa using this
              rw [hj0] at hj hj'
              injection hj with hj
              injection hj' with hj'
              rw [← hj, ← hj']
              exact ((HNEW.out.below HBX.out).below hb7).grown p2 p3
          · have x6 := (HB.out.trans (HB5.out.mono HB.out.size)).trans (HBX.out.mono (Nat.le_trans HB.out.size HB5.out.size))
            have x7 := x6.trans (hb7.mono x6.size)
            exact x7.grown p2 x7.size fun b e => (by
              have := (hown6.lt b e).1
              omega)
        clear kx hbx hg5 hs5
        generalize entsA (ES.take i) ms = xs7 at *
        go_wp2_with (first
          | (refine wpList_load_run rfl 51 (.tmp 11) _ _ rfl rfl ldR ?_; clear ldR)
          | (refine wpList_snoc_ents2 hown6 (entA (q, r') m) rfl h1e hiL hB6 _ _ rfl (.tmp 46) (.tmp 50) rfl rfl rfl ?_; intro A8 c8 w8 p1 p2 p3; have HR8 := Lib.hid (FIN.out A8 c8 w8 p1 p2 p3); clear FIN p1 p2 p3 h1e hown6 hB6)
          | fail)
        go_roundw
        case rel => exact ⟨i + 1, by omega, by go_num, HR8.out⟩
        case measure => simp [intOf]; omega
      · obtain rfl : i = d := by omega
        have e1 : decide ((i : Int) < (i : Int)) = false := by rw [decide_eq_false_iff_not]; omega
        have htk : ES.take i = ES := List.take_of_length_le (by rw [HES.out]; have := HD.out; omega)
        rw [htk] at hE
        obtain ⟨A9, c9, rfl, hat⟩ := hE.read
        have HF : Hid (EntsPost w.heap.size w ((entsP L.h.base rs).drop k) (.returned (.slice A9 ES.length c9)) wr) := Lib.hid (by rw [HEQ.out]; exact ⟨hb, A9, c9, rfl, hat⟩)
        clear hat htk hE hb
        generalize ES.length = el at *
        go_wp2
        go_ret
        exact HF.out
  · have b1 : (0 : Int) ≤ (k : Int) := by omega
    have b2 : (k : Int) ≤ (n : Int) := by omega
    have b3 : (n : Int) ≤ (cs : Int) := by omega
    obtain rfl : k = n := by omega
    have hes : (entsP L.h.base rs).drop k = [] := by rw [List.drop_eq_nil_iff, entsP_length, ← HN2.out]; exact Nat.le_refl _
    have FIN : Hid (EntsPost w.heap.size w ((entsP L.h.base rs).drop k) (.returned (.slice none 0 0)) w1) := Lib.hid (by
      rw [hes]
      exact ⟨HB1.out, none, 0, rfl, fun j hj => absurd hj (by simp)⟩)
    have z1 : (k : Int) - (k : Int) = 0 := by omega
    clear hes
    by_cases hc : cs = k
    · subst hc
      go_wp2_with fail
      go_loopw [7, 27] (fun v7 v27 wr => v7 = .slice none 0 0 ∧ v27 = .int .i64 0 ∧ wr = w1) (fun _ _ _ => 0)
      case atStart => exact ⟨rfl, rfl, rfl⟩
      case round =>
        obtain ⟨rfl, rfl, rfl⟩ := hrel
        go_wp2
        go_ret
        exact FIN.out
    · have ck : (cs = k) = False := eq_false hc
      go_wp2_with fail
      go_loopw [7, 27] (fun v7 v27 wr => v7 = .slice none 0 0 ∧ v27 = .int .i64 0 ∧ wr = w1) (fun _ _ _ => 0)
      case atStart => exact ⟨rfl, rfl, rfl⟩
      case round =>
        obtain ⟨rfl, rfl, rfl⟩ := hrel
        go_wp2
        go_ret
        exact FIN.out
end Go.Proofs.YtkganajbilnanaaGreat
