/- The document's device: New. Conditions: none. -/
import Derived.Test.YtnbbneldbagohaaRImage
import Derived.Test.YtnbbneldbagohaaGrow
namespace Go.Proofs.Ytnbbneldbagohaa
open Go.ChangeShapes Go.WideShapes Go.ChangeAt Go.RowKit
set_option linter.unusedVariables false
set_option linter.unusedSimpArgs false
set_option maxRecDepth 20000

theorem RAt.growF {hal : Bool} {f : Nat → List Sect} {w w1 : World} {F F' : Nat → Prop} {gp : Nat} {s : Nat → Value} {lf : Int} {X : Nat → List Value} (h : RAt ⟨f, none, hal⟩ w F gp s lf X)
    {n base : Nat} (hn : n < 2) {v' u : Value} {l : List Nat} (ho : w1.ownsRow base 83 2 v' ((f n).length + 1) (X n ++ [u, .slice none 0 0])) (hg : w.grownBy w1 (s n).ownBlock) (hat : v'.ownBlock = (s n).ownBlock ∨ v'.ownBlock = some w.heap.size)
    (hu : Txt w1 F' u l) (hFF : ∀ b, F b → F' b) (hFn : v'.ownBlock = some w.heap.size → F' w.heap.size) :
    RAt ⟨appF f n l, none, hal⟩ (w1.setCell ⟨gp, n, none⟩ v') F' gp (updV s n v') lf (updX X n (X n ++ [u, .slice none 0 0])) := by
  have hO : Only (fun b => (s n).ownBlock = some b) w w1 := Only.of_grown hg fun b e => .inl e
  have hb := h.blk.only hO (fun q => absurd (h.blk.ty.uniq (own_ty (h.file n hn).1 q)) (by decide))
  have hfar : Far w1 83 (fun b => b = gp) := fun b q _ => by
    subst q
    exact ⟨_, hb.ty, by decide, by decide, by decide⟩
  have ho2 : Only (fun b => b = gp) w1 (w1.setCell ⟨gp, n, none⟩ v') := (Only.refl (fun b => b = gp) w1).setCell (p := ⟨gp, n, none⟩) (.inl rfl) _
  refine ⟨(h.toFilesAt.grow (by decide) (by decide) hn ho hg hat hu hFF hFn).far ho2 hfar, ?_, hFF _ h.inF, h.left⟩
  have := hb.set_ n v'
  rcases (show n = 0 ∨ n = 1 from by omega) with rfl | rfl
  · simpa [updV] using this
  · simpa [updV] using this
theorem rsector_info : (Try.prog.info? 83).map (fun i => (i.zero, i.size, i.bytes)) = some (some (.agg #[.slice none 0 0, .slice none 0 0]), 2, 48) := by kernel_rfl
def repF (i j : Nat) (m : Nat) : List Sect := List.replicate (if m = 0 then i else if m = 1 then j else 0) zeroS
theorem repF_0 (i j : Nat) : appF (repF i j) 0 (List.replicate 128 0) = repF (i + 1) j := by
  funext m
  unfold appF repF
  by_cases e : m = 0
  · subst e
    rw [if_pos rfl, if_pos rfl, if_pos rfl]
    exact List.replicate_succ'.symm
  · rw [if_neg e, if_neg e, if_neg e]
theorem repF_1 (i j : Nat) : appF (repF i j) 1 (List.replicate 128 0) = repF i (j + 1) := by
  funext m
  unfold appF repF
  by_cases e : m = 1
  · subst e
    rw [if_pos rfl, if_neg (by omega), if_pos rfl, if_neg (by omega), if_pos rfl]
    exact List.replicate_succ'.symm
  · rw [if_neg e]
    by_cases e' : m = 0
    · rw [if_pos e', if_pos e']
    · rw [if_neg e', if_neg e, if_neg e', if_neg e]
/-- a new device of the document's, or none -/
def RNewPost (a b : Int) (w : World) (e : Ending) (w' : World) : Prop :=
  (okN a ∧ okN b → ∃ p, e = .returned p ∧ IsRDev (DevP.new a.toNat b.toNat) w' (fun x => w.heap.size ≤ x ∧ x < w'.heap.size) p) ∧ (¬ (okN a ∧ okN b) → e = .returned (.pointer none)) ∧ Below w.heap.size w w'
/-- one sector more, of noughts -/
theorem rnew_one {q i j k : Nat} (hq : q < 2) (hk : (repF i j q).length = k) {w wr : World} {s : Nat → Value} {X : Nat → List Value} (hd : RAt ⟨repF i j, none, false⟩ wr (newB w wr) w.heap.size s 0 X) (hb : Below w.heap.size w wr) {wm : World} (hg0 : wr.grownBy wm none) (hm : wr.heap.size < wm.heap.size)
    (hom : wm.ownsRow wr.heap.size 5 1 (.slice (some ⟨wr.heap.size, 0, none⟩) 128 128) 128 ((List.replicate 128 0).map byteV)) {w5 : World} {A : Option Addr} {c : Nat}
    (ho : w5.ownsRow 0 83 2 (.slice A (k + 1) c) (k + 1) (X q ++ [.slice (some ⟨wr.heap.size, 0, none⟩) 128 128, .slice none 0 0]))
    (hg : (wm.alloc (.cells #[.slice (some ⟨wr.heap.size, 0, none⟩) 128 128, .slice none 0 0] 83)).grownBy w5 (s q).ownBlock)
    (hat : (Value.slice A (k + 1) c).ownBlock = (s q).ownBlock ∨ (Value.slice A (k + 1) c).ownBlock = some (wm.alloc (.cells #[.slice (some ⟨wr.heap.size, 0, none⟩) 128 128, .slice none 0 0] 83)).heap.size) :
    (∃ s' X', RAt ⟨appF (repF i j) q (List.replicate 128 0), none, false⟩ (w5.setCell ⟨w.heap.size, q, none⟩ (.slice A (k + 1) c)) (newB w (w5.setCell ⟨w.heap.size, q, none⟩ (.slice A (k + 1) c))) w.heap.size s' 0 X') ∧
    Below w.heap.size w (w5.setCell ⟨w.heap.size, q, none⟩ (.slice A (k + 1) c)) ∧ w5.frozen? ⟨w.heap.size, q, none⟩ = false ∧ ∃ v, w5.cell? ⟨w.heap.size, q, none⟩ = some v := by
  subst hk
  have hwr := hb.size
  have hbm : Below wr.heap.size wr wm := (Below.refl _ _).grown hg0 (Nat.le_refl _) (fun k e => by cases e)
  have hba := hbm.alloc hbm.size (.cells #[.slice (some ⟨wr.heap.size, 0, none⟩) 128 128, .slice none 0 0] 83)
  have hu8 : U8 wm wr.heap.size := by
    rcases hom.2 with ⟨e', _⟩ | ⟨g', cap', cur', e', _, hgb, _⟩
    · cases e'
    · injection e' with e' _ _
      injection e' with e'
      injection e' with e' _
      subst e'
      exact ⟨cur', _, hgb⟩
  generalize hwa : wm.alloc (.cells #[.slice (some ⟨wr.heap.size, 0, none⟩) 128 128, .slice none 0 0] 83) = wa at *
  have hsa : wa.heap.size = wm.heap.size + 1 := by rw [← hwa]; simp
  have hs5 := hg.size
  have hda := hd.grown (F' := newB w wr) hba fun b z => z
  have hbst : ∀ v, (w5.setCell ⟨w.heap.size, q, none⟩ v).heap.size = w5.heap.size := fun v => by simp [World.setCell]
  have hO : Only (fun b => (s q).ownBlock = some b) wa w5 := Only.of_grown hg fun b e => .inl e
  have hna : ∀ b, U8 wa b → ¬ (s q).ownBlock = some b := fun b z e => absurd ((own_ty (hda.file q hq).1 e).uniq z) (by decide)
  have hoa : wa.ownsRow wr.heap.size 5 1 (.slice (some ⟨wr.heap.size, 0, none⟩) 128 128) 128 ((List.replicate 128 0).map byteV) := by
    rw [← hwa]
    exact kept_none (below_none ((Below.refl _ _).alloc (Nat.le_refl _) _)) hom
  have htx : Txt w5 (newB w w5) (.slice (some ⟨wr.heap.size, 0, none⟩) 128 128) (List.replicate 128 0) := by
    have t0 : Txt wa (fun b => b = wr.heap.size) (.slice (some ⟨wr.heap.size, 0, none⟩) 128 128) (List.replicate 128 0) := Txt.own hoa List.length_replicate (replicate_small 128) fun b e => by injection e with e; exact e.symm
    refine (t0.only hO fun b _ z => hna b z).mono fun b e _ => ?_
    subst e
    exact ⟨hwr, by omega⟩
  have hlt5 : w5.heap.size ≥ wm.heap.size + 1 := by omega
  have hgrow := RAt.growF (F' := newB w w5) hda hq ho hg hat htx (fun b z => ⟨z.1, by have := z.2; omega⟩) (fun z => ⟨by omega, (ho.lt _ z).2⟩)
  have hbk := hda.blk.only hO (fun z => absurd (hda.blk.ty.uniq (own_ty (hda.file q hq).1 z)) (by decide))
  refine ⟨⟨_, _, by unfold newB at *; rw [hbst]; exact hgrow⟩, ?_, hbk.frozen q, ?_⟩
  · have hb5 : Below w.heap.size w w5 := (hb.trans (hba.mono hwr)).grown hg (by omega) (fun k e => (hda.file q hq).2.1 k e |>.1)
    exact hb5.setCell (p := ⟨w.heap.size, q, none⟩) (by exact Nat.le_refl _) _
  · rcases (show q = 0 ∨ q = 1 from by omega) with rfl | rfl
    · exact ⟨_, hbk.cell 0⟩
    · exact ⟨_, hbk.cell 1⟩
theorem RAt.start (w : World) : RAt ⟨repF 0 0, none, false⟩ (w.alloc (.cells #[.slice none 0 0, .slice none 0 0, .bool false, .int .i64 0, .bool false] 81)) (newB w (w.alloc (.cells #[.slice none 0 0, .slice none 0 0, .bool false, .int .i64 0, .bool false] 81))) w.heap.size (fun _ => .slice none 0 0) 0 (fun _ => []) := by
  refine ⟨⟨fun n hn => ⟨?_, (fun b e => by cases e), fun i s e => ?_⟩, .inl rfl, fun f i g j u v _ _ _ hu => by cases hu⟩, Blk.new _ _ _, ⟨Nat.le_refl _, by simp⟩, fun n e => by cases e⟩
  · rcases (show n = 0 ∨ n = 1 from by omega) with rfl | rfl <;> exact World.ownsRow_nil _ _ _ _
  · rcases (show n = 0 ∨ n = 1 from by omega) with rfl | rfl <;> cases e
/-- all that a round of the loop wants -/
theorem rnew_ready {q i j k : Nat} (hq : q < 2) (hk : (repF i j q).length = k) {w wr : World} {s : Nat → Value} {X : Nat → List Value} (hd : RAt ⟨repF i j, none, false⟩ wr (newB w wr) w.heap.size s 0 X) (hb : Below w.heap.size w wr) :
    ∃ A c wm, (Instr.makeSlice 28 (.int .i64 128) (.int .i64 128)).run Try.prog wr.drew = .ok (.slice (some ⟨wr.heap.size, 0, none⟩) 128 128) wm ∧
      wr.cell? ⟨w.heap.size, q, none⟩ = some (.slice A k c) ∧ wm.cell? ⟨w.heap.size, q, none⟩ = some (.slice A k c) ∧ (wm.alloc (.cells #[.slice (some ⟨wr.heap.size, 0, none⟩) 128 128, .slice none 0 0] 83)).cell? ⟨w.heap.size, q, none⟩ = some (.slice A k c) ∧
      (wm.alloc (.cells #[.slice (some ⟨wr.heap.size, 0, none⟩) 128 128, .slice none 0 0] 83)).ownsRow 0 83 2 (.slice A k c) k (X q) ∧
      ∀ (w5 : World) (A' : Option Addr) (c' : Nat), w5.ownsRow 0 83 2 (.slice A' (k + 1) c') (k + 1) (X q ++ [.slice (some ⟨wr.heap.size, 0, none⟩) 128 128, .slice none 0 0]) →
        (wm.alloc (.cells #[.slice (some ⟨wr.heap.size, 0, none⟩) 128 128, .slice none 0 0] 83)).grownBy w5 (Value.slice A k c).ownBlock →
        ((Value.slice A' (k + 1) c').ownBlock = (Value.slice A k c).ownBlock ∨ (Value.slice A' (k + 1) c').ownBlock = some (wm.alloc (.cells #[.slice (some ⟨wr.heap.size, 0, none⟩) 128 128, .slice none 0 0] 83)).heap.size) →
        (∃ s' X', RAt ⟨appF (repF i j) q (List.replicate 128 0), none, false⟩ (w5.setCell ⟨w.heap.size, q, none⟩ (.slice A' (k + 1) c')) (newB w (w5.setCell ⟨w.heap.size, q, none⟩ (.slice A' (k + 1) c'))) w.heap.size s' 0 X') ∧
        Below w.heap.size w (w5.setCell ⟨w.heap.size, q, none⟩ (.slice A' (k + 1) c')) ∧ w5.frozen? ⟨w.heap.size, q, none⟩ = false ∧ ∃ v, w5.cell? ⟨w.heap.size, q, none⟩ = some v := by
  obtain ⟨iu, hiu, hzu, hsu, hbu⟩ := info_parts u8_info
  obtain ⟨wm, hrun, hom, hgm⟩ := run_make_full (P := Try.prog) (w := wr.drew) wr.heap.size 28 5 iu _ 1 Try.underlying28 hiu hzu hsu .i64 .i64 128 (by rw [hbu]; omega) (by unfold maxLen; omega) (Nat.le_refl _)
  have hom2 : wm.ownsRow wr.heap.size 5 1 (.slice (some ⟨wr.heap.size, 0, none⟩) 128 128) 128 ((List.replicate 128 0).map byteV) := by
    have e : (madeCells (Value.int .u8 0).cells (128 * 1)).toList = (List.replicate 128 0).map byteV := by
      rw [Nat.mul_one, List.map_replicate]
      exact toList_madeCells_one _ 128
    rw [← e]
    exact hom
  have hwm := (hom.lt wr.heap.size rfl).2
  have hgm' : wr.grownBy wm none := ⟨hgm.os, hgm.tape, hgm.output, hgm.size, hgm.block⟩
  have hbm : Below wr.heap.size wr wm := (Below.refl _ _).grown hgm' (Nat.le_refl _) (fun k e => by cases e)
  have hba := hbm.alloc hbm.size (.cells #[.slice (some ⟨wr.heap.size, 0, none⟩) 128 128, .slice none 0 0] 83)
  have hrow := (hd.file q hq).1
  rw [show (DevP.f ⟨repF i j, none, false⟩ q).length = k from hk] at hrow
  obtain ⟨A, c, es, -, -⟩ := own_form hrow
  have hgl := hd.blk.lt
  have c0 := hd.cellF hq
  rw [es] at c0 hrow
  refine ⟨A, c, wm, hrun, c0, (hbm.cell (p := ⟨w.heap.size, q, none⟩) hgl).trans c0, (hba.cell (p := ⟨w.heap.size, q, none⟩) hgl).trans c0, kept_below hba hrow, fun w5 A' c' h1 h2 h3 => ?_⟩
  rw [← es] at h2 h3
  exact rnew_one hq hk hd hb hgm' hwm hom2 h1 h2 h3
set_option maxHeartbeats 4000000 in
theorem rnew_ok (n m : Nat) (hn : n ≤ 4096) (hm : m ≤ 4096) (w : World) :
    Calls Try.prog 23 #[.int .i64 n, .int .i64 m] w fun e w' => ∃ p, e = .returned p ∧ IsRDev (DevP.new n m) w' (newB w w') p ∧ Below w.heap.size w w' := by
  obtain ⟨is, his, hzs, hss, hbs⟩ := info_parts rsector_info
  have t1 : decide ((n : Int) < 0) = false := by rw [decide_eq_false_iff_not]; omega
  have t2 : decide ((4096 : Int) < (n : Int)) = false := by rw [decide_eq_false_iff_not]; omega
  have t3 : decide ((m : Int) < 0) = false := by rw [decide_eq_false_iff_not]; omega
  have t4 : decide ((4096 : Int) < (m : Int)) = false := by rw [decide_eq_false_iff_not]; omega
  have hst := RAt.start w
  have hbst : Below w.heap.size w (w.alloc (.cells #[.slice none 0 0, .slice none 0 0, .bool false, .int .i64 0, .bool false] 81)) := (Below.refl _ _).alloc (Nat.le_refl _) _
  go_enter Try.func23, Try.ntmps23
  go_wp2_with fail
  go_loopw [6] (fun i wr => ∃ k : Nat, k ≤ n ∧ i = .int .i64 k ∧ (∃ s X, RAt ⟨repF k 0, none, false⟩ wr (newB w wr) w.heap.size s 0 X) ∧ Below w.heap.size w wr) (fun i _ => n - (intOf i).toNat)
  case atStart => exact ⟨0, by omega, rfl, ⟨_, _, hst⟩, hbst⟩
  case round =>
    clear hst hbst
    obtain ⟨k, hk, rfl, ⟨s, X, hd⟩, hb⟩ := hrel
    rcases Nat.lt_or_ge k n with hlt | hge
    · have e1 : decide ((k : Int) < (n : Int)) = true := by rw [decide_eq_true_iff]; omega
      obtain ⟨A, c, wm, hrun, c0, c1, c2, ho, hready⟩ := rnew_ready (q := 0) (k := k) (by omega) (List.length_replicate ..) hd hb
      rw [repF_0] at hready
      have HR := Lib.hid hready
      have HO := Lib.hid ho
      clear hready ho hd hb
      go_wp2_with fail
      go_region_law
        (first
          | (refine step_append_row (by rfl) _ _ 78 (by rfl) 0 83 is _ 2 48 Try.underlying78 his hzs hss hbs rfl (by decide) (.slice A k c) k (X 0) (by rfl) HO.out ⟨wm.heap.size, 0, none⟩ 1 1 [.slice (some ⟨wr.heap.size, 0, none⟩) 128 128, .slice none 0 0] (by rfl) rfl (new_cells wm _ _ (0, 0)) (by simp [Value.oneCell']) (by unfold maxLen; omega) (by omega) (Nat.zero_le _) ?_; intro A5 c5 w5 ho5 hg5 hat5; have h5 := HR.out w5 A5 c5 ho5 hg5 hat5; have f5 := h5.2.2.1; obtain ⟨v5, cc5⟩ := h5.2.2.2; have H5 := Lib.hid h5; clear ho5 hg5 hat5 h5)
          | fail)
      all_goals
        go_wp2
        go_roundw
        case rel => exact ⟨k + 1, by omega, by go_num, H5.out.1, H5.out.2.1⟩
        case measure => simp [intOf]; omega
    · obtain rfl : k = n := by omega
      have e1 : decide ((k : Int) < (k : Int)) = false := by rw [decide_eq_false_iff_not]; omega
      have HD := Lib.hid (And.intro hd hb)
      clear hd hb
      go_wp2_with fail
      go_loopw [7] (fun i wr => ∃ j : Nat, j ≤ m ∧ i = .int .i64 j ∧ (∃ s X, RAt ⟨repF k j, none, false⟩ wr (newB w wr) w.heap.size s 0 X) ∧ Below w.heap.size w wr) (fun i _ => m - (intOf i).toNat)
      case atStart => exact ⟨0, by omega, rfl, ⟨_, _, HD.out.1⟩, HD.out.2⟩
      case round =>
        clear HD
        obtain ⟨j, hj, rfl, ⟨s, X, hd⟩, hb⟩ := hrel
        rcases Nat.lt_or_ge j m with hlt | hge
        · have e2 : decide ((j : Int) < (m : Int)) = true := by rw [decide_eq_true_iff]; omega
          obtain ⟨A, c, wm, hrun, c0, c1, c2, ho, hready⟩ := rnew_ready (q := 1) (k := j) (by omega) (List.length_replicate ..) hd hb
          rw [repF_1] at hready
          have HR := Lib.hid hready
          have HO := Lib.hid ho
          clear hready ho hd hb
          go_wp2_with fail
          go_region_law
            (first
              | (refine step_append_row (by rfl) _ _ 78 (by rfl) 0 83 is _ 2 48 Try.underlying78 his hzs hss hbs rfl (by decide) (.slice A j c) j (X 1) (by rfl) HO.out ⟨wm.heap.size, 0, none⟩ 1 1 [.slice (some ⟨wr.heap.size, 0, none⟩) 128 128, .slice none 0 0] (by rfl) rfl (new_cells wm _ _ (0, 0)) (by simp [Value.oneCell']) (by unfold maxLen; omega) (by omega) (Nat.zero_le _) ?_; intro A5 c5 w5 ho5 hg5 hat5; have h5 := HR.out w5 A5 c5 ho5 hg5 hat5; have f5 := h5.2.2.1; obtain ⟨v5, cc5⟩ := h5.2.2.2; have H5 := Lib.hid h5; clear ho5 hg5 hat5 h5)
              | fail)
          all_goals
            go_wp2
            go_roundw
            case rel => exact ⟨j + 1, by omega, by go_num, H5.out.1, H5.out.2.1⟩
            case measure => simp [intOf]; omega
        · obtain rfl : j = m := by omega
          have e2 : decide ((j : Int) < (j : Int)) = false := by rw [decide_eq_false_iff_not]; omega
          have hfin : IsRDev (DevP.new k j) wr (newB w wr) (.pointer (some ⟨w.heap.size, 0, none⟩)) := ⟨_, s, 0, X, rfl, hd⟩
          have HD := Lib.hid (And.intro hfin hb)
          clear hd hb hfin
          go_wp2
          go_ret
          exact ⟨_, rfl, HD.out⟩
theorem rnew_any (a b : Int) (w : World) : Calls Try.prog 23 #[.int .i64 a, .int .i64 b] w (RNewPost a b w) := by
  by_cases hok : okN a ∧ okN b
  · obtain ⟨⟨a1, a2⟩, b1, b2⟩ := hok
    obtain ⟨n, rfl⟩ := Int.eq_ofNat_of_zero_le a1
    obtain ⟨m, rfl⟩ := Int.eq_ofNat_of_zero_le b1
    refine (rnew_ok n m (by omega) (by omega) w).mono ?_
    rintro e w' ⟨p, rfl, h1, h2⟩
    exact ⟨fun _ => ⟨p, rfl, h1⟩, fun h => absurd ⟨⟨a1, a2⟩, b1, b2⟩ h, h2⟩
  · have hfin : RNewPost a b w (.returned (.pointer none)) w := ⟨fun h' => absurd h' hok, fun _ => rfl, Below.refl _ _⟩
    have HF := Lib.hid hfin
    have hk : a < 0 ∨ (¬ a < 0 ∧ 4096 < a) ∨ (¬ a < 0 ∧ ¬ 4096 < a ∧ b < 0) ∨ (¬ a < 0 ∧ ¬ 4096 < a ∧ ¬ b < 0 ∧ 4096 < b) := by
      unfold okN at hok
      omega
    clear hfin hok
    rcases hk with h | ⟨h, h2⟩ | ⟨h, h2, h3⟩ | ⟨h, h2, h3, h4⟩
    · have t1 : decide (a < 0) = true := by rw [decide_eq_true_iff]; exact h
      go_enter Try.func23, Try.ntmps23
      go_wp2
      go_ret
      exact HF.out
    · have t1 : decide (a < 0) = false := by rw [decide_eq_false_iff_not]; exact h
      have t2 : decide (4096 < a) = true := by rw [decide_eq_true_iff]; exact h2
      go_enter Try.func23, Try.ntmps23
      go_wp2
      go_ret
      exact HF.out
    · have t1 : decide (a < 0) = false := by rw [decide_eq_false_iff_not]; exact h
      have t2 : decide (4096 < a) = false := by rw [decide_eq_false_iff_not]; exact h2
      have t3 : decide (b < 0) = true := by rw [decide_eq_true_iff]; exact h3
      go_enter Try.func23, Try.ntmps23
      go_wp2
      go_ret
      exact HF.out
    · have t1 : decide (a < 0) = false := by rw [decide_eq_false_iff_not]; exact h
      have t2 : decide (4096 < a) = false := by rw [decide_eq_false_iff_not]; exact h2
      have t3 : decide (b < 0) = false := by rw [decide_eq_false_iff_not]; exact h3
      have t4 : decide (4096 < b) = true := by rw [decide_eq_true_iff]; exact h4
      go_enter Try.func23, Try.ntmps23
      go_wp2
      go_ret
      exact HF.out
end Go.Proofs.Ytnbbneldbagohaa
