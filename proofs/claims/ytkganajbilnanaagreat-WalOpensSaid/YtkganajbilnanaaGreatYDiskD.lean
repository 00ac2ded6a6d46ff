/- disk: Image. Conditions: the device lies there. -/
import Derived.Test.YtkganajbilnanaaGreatYDiskC
import Derived.Lib.SmallJoins
set_option linter.unusedVariables false
set_option linter.unusedSimpArgs false
namespace Go.Proofs.YtkganajbilnanaaGreat
open Go.ChangeShapes Go.WideShapes Go.ChangeAt Go.RowKit
set_option maxRecDepth 20000
theorem rows_more {w0 w1 w2 w5 : World} {A A0 A5 : Option Addr} {c c0 c5 k : Nat} {L : List Value} {ls : List (List Nat)} {l : List Nat} {n : Nat} (hb : Below w0.heap.size w0 w1) (hown : w1.ownsRow w0.heap.size 45 1 (.slice A0 k c0) k L) (hr : Rows w1 w0.heap.size L ls)
    (hb2 : Below w1.heap.size w1 w2) (ho : w2.ownsRow w1.heap.size 5 1 (.slice A n c) n (l.map byteV)) (hn : l.length = n) (hs : Small l)
    (ho5 : w5.ownsRow w0.heap.size 45 1 (.slice A5 (k + 1) c5) (k + 1) (L ++ [.slice A n c])) (hg5 : (w2.alloc (.cells #[.slice A n c] 45)).grownBy w5 (Value.slice A0 k c0).ownBlock) :
    Rows w5 w0.heap.size (L ++ [.slice A n c]) (ls ++ [l]) ∧ Below w0.heap.size w0 w5 := by
  subst hn
  have hag : Below w2.heap.size w2 (w2.alloc (.cells #[.slice A l.length c] 45)) := (Below.refl _ _).alloc (Nat.le_refl _) _
  have hown2 := kept_none (below_none hb2) hown
  have hown3 := kept_none (below_none hag) hown2
  have hr2 := hr.grown (below_none hb2)
  have hr3 := hr2.grown (below_none hag)
  have k5 : ∀ (u : Value) (m : List Nat), (w2.alloc (.cells #[.slice A l.length c] 45)).ownsRow w0.heap.size 5 1 u m.length (m.map byteV) → w5.ownsRow w0.heap.size 5 1 u m.length (m.map byteV) := fun u m hu => hu.kept hg5 (own_apart (by decide) hu hown3)
  refine ⟨(hr3.imp k5).snoc ⟨⟨_, _, rfl⟩, k5 _ _ (kept_none (below_none hag) (own_base hb.size ho)), hs⟩, ?_⟩
  exact below_own (v := .slice A0 k c0) ((hb.trans (hb2.mono hb.size)).alloc (Nat.le_trans hb.size hb2.size) _) hg5 hown3 (Nat.le_refl _) (by rw [World.size_alloc]; have := hb.size; have := hb2.size; omega)
section
variable {D : DevP} {w : World} {F : Nat → Prop} {gp : Nat} {s : Nat → Value} {lv : Value} {X : Nat → List Value}
set_option maxHeartbeats 1000000 in
theorem image_some (h : DevAt D w F gp s lv X) {N : Nat} (hG : D.good N) {n : Nat} (hn : n < 2) :
    Calls Tryz.prog 96 #[.pointer (some ⟨gp, 0, none⟩), .int .u8 n] w (RetRows (D.image n) w) := by
  have hf := file_any h n (by omega)
  rw [if_pos hn] at hf
  obtain ⟨i0, hi0, hz0, hz1, hz2⟩ := info_parts row_info
  obtain ⟨Aq, cq, es, -, -⟩ := own_form (h.file n hn).1
  rw [es] at hf
  have hD : D.image n = (D.f n).map Sect.last := if_pos hn
  rw [hD]
  have hm2 := (hG n hn).1
  have hcell : ∀ k (hk : k < (D.f n).length), ∃ g lw wv, Aq = some ⟨g, 0, none⟩ ∧ g < w.heap.size ∧ w.cell? ⟨g, k * 2, none⟩ = some lw ∧ w.cell? ⟨g, k * 2 + 1, none⟩ = some wv ∧ (∃ A5 m5 c5, wv = .slice A5 m5 c5) ∧ Txt w F lw (D.f n)[k].last := fun k hk => by
    obtain ⟨g, c', lw, wv, es', q0, q1, ht, hW, -, hg, -, -⟩ := sector_at h hn hk
    rw [es] at es'
    injection es' with e1 _ _
    obtain ⟨L, how, -, -⟩ := hW
    obtain ⟨A5, c5, rfl, -, -⟩ := own_form how
    rw [Nat.mul_comm 2 k] at q0 q1
    exact ⟨g, lw, _, e1, hg, q0, q1, ⟨_, _, _, rfl⟩, ht⟩
  have h128 : ∀ k (hk : k < (D.f n).length), (D.f n)[k].last.length = 128 := fun k hk => (hG.at_ hn hk).1
  clear h es hG hD
  generalize D.f n = ss at *
  go_enter Tryz.func96, Tryz.ntmps96
  go_wp2_with fail
  refine hf.mono ?_
  rintro e w1 ⟨rfl, rfl⟩
  go_wp2_with fail
  go_loopw [5, 12, 7] (fun v i _ wr => ∃ (k : Nat) (L : List Value), k ≤ ss.length ∧ i = .int .i64 k ∧ wr.ownsRow w.heap.size 45 1 v k L ∧ Rows wr w.heap.size L ((ss.map Sect.last).take k) ∧ Below w.heap.size w wr) (fun _ i _ _ => ss.length - (intOf i).toNat)
  case atStart => exact ⟨0, [], by omega, rfl, World.ownsRow_nil _ _ _ _, by rw [List.take_zero]; exact Rows.nil _ _, Below.refl _ _⟩
  case round =>
    clear hf
    obtain ⟨k, L, hk, rfl, hown, hr, hb⟩ := hrel
    obtain ⟨A0, c0, rfl, -, -⟩ := own_form hown
    rcases Nat.lt_or_ge k ss.length with hlt | hge
    · have e1 : decide ((k : Int) < (ss.length : Int)) = true := by rw [decide_eq_true_iff]; omega
      have e2 : (0 : Int) ≤ (k : Int) := by omega
      have e3 : (k : Int) < (ss.length : Int) := by omega
      obtain ⟨g, lw, wv, rfl, hgw, q0, q1, ⟨A6, m6, c6, rfl⟩, ht⟩ := hcell k hlt
      have hl := h128 k hlt
      have p0 := (hb.cell (p := ⟨g, k * 2, none⟩) hgw).trans q0
      have p1 := (hb.cell (p := ⟨g, k * 2 + 1, none⟩) hgw).trans q1
      have ht2 := ht.only (Only.of_below hb (fun _ => False)) fun _ _ _ z => z
      obtain ⟨A1, c1, rfl, hc1, hb1⟩ := ht2.bytes
      have htk : (ss.map Sect.last).take (k + 1) = (ss.map Sect.last).take k ++ [ss[k].last] := by rw [List.take_succ_eq_append_getElem (by simpa using hlt), List.getElem_map]
      generalize ss[k].last = x at *
      rw [hl] at p0
      have hcl : ∀ W, Below wr.heap.size wr W → Calls Tryz.prog 21 #[.slice A1 128 c1] W (RetBytes 5 x W) := fun W hW => by
        have := clone_any A1 c1 x wr.heap.size W (hb1.below hW) hW.size (by omega)
        rw [hl] at this
        exact this
      have HTK := Lib.hid htk
      clear htk hcell h128 ht ht2 hb1 q0 q1
      have hba : Below wr.heap.size wr (wr.alloc (.cells #[.slice A1 128 c1, .slice A6 m6 c6] 71)) := (Below.refl _ _).alloc (Nat.le_refl _) _
      go_wp2_with fail
      refine (hcl _ hba).mono ?_
      rintro e w2 ⟨A2, c2, rfl, ho2, hb2, hs2⟩
      rw [hl] at ho2 ⊢
      have hbw := hba.trans (hb2.mono hba.size)
      replace ho2 := own_base hba.size ho2
      have hown2 := kept_none (below_none hbw) hown
      have hwr := hb.size
      have hw2 := hbw.size
      clear hba hb2 hcl
      go_wp2_with (at_builtin; refine wpList_append_at2 rfl _ _ 22 22 rfl w.heap.size 45 i0 _ 24 Tryz.underlying22 Tryz.underlying22 hi0 hz0 hz1 hz2 rfl (.slice A0 k c0) k L rfl (hown2.alloc _) (w2.heap.size + 1) (some ⟨w2.heap.size, 0, none⟩) 1 1 [.slice A2 128 c2] rfl rfl (At.new w2 [.slice A2 128 c2] 45 (0, 0)) (by simp [Value.oneCell']) (by unfold maxLen; omega) (by omega) (by rw [World.size_alloc]; omega) ?_; intro A5 c5 w5 hown5 hg5 hat5; have HM := Lib.hid (rows_more hb hown hr hbw ho2 hl hs2 hown5 hg5); have ho5 := Lib.hid hown5; clear hown5 hat5)
      go_roundw
      case rel => exact ⟨k + 1, _, by omega, by go_num, ho5.out, by rw [HTK.out]; exact HM.out.1, HM.out.2⟩
      case measure => simp [intOf]; omega
    · obtain rfl : k = ss.length := by omega
      have e1 : decide ((ss.length : Int) < (ss.length : Int)) = false := by rw [decide_eq_false_iff_not]; omega
      rw [List.take_of_length_le (by simp)] at hr
      clear hcell h128
      go_wp2
      go_ret
      exact ⟨A0, c0, L, ret_slice (by simp), by simpa using hown, hr, hb⟩
theorem image_none (h : DevAt D w F gp s lv X) (n : Nat) (hn : n < 256) (hn2 : 2 ≤ n) :
    Calls Tryz.prog 96 #[.pointer (some ⟨gp, 0, none⟩), .int .u8 n] w (RetRows (D.image n) w) := by
  have hf := file_any h n hn
  rw [if_neg (by omega)] at hf
  have hD : D.image n = [] := if_neg (by omega)
  rw [hD]
  clear h
  go_enter Tryz.func96, Tryz.ntmps96
  go_wp2_with fail
  refine hf.mono ?_
  rintro e w1 ⟨rfl, rfl⟩
  go_wp2_with fail
  refine wp_loop_rounds 1 ?_
  rw [rounds_succ]
  go_wp2
  go_ret
  exact ⟨none, 0, [], rfl, World.ownsRow_nil _ _ _ _, Rows.nil _ _, Below.refl _ _⟩
end
theorem image_any {D : DevP} {w : World} {F : Nat → Prop} {p : Value} (h : IsDev D w F p) {N : Nat} (hG : D.good N) (n : Nat) (hn : n < 256) :
    Calls Tryz.prog 96 #[p, .int .u8 n] w (RetRows (D.image n) w) := by
  obtain ⟨gp, s, lv, X, rfl, h⟩ := h
  by_cases hh : n < 2
  · exact image_some h hG hh
  · exact image_none h n hn (by omega)
theorem sector_info : (Tryz.prog.info? 71).map (fun i => (i.zero, i.size, i.bytes)) = some (some (.agg #[.slice none 0 0, .slice none 0 0]), 2, 48) := by kernel_rfl
theorem madeCells_nil2 (n : Nat) : (madeCells (Value.agg #[.slice none 0 0, .slice none 0 0]).cells (n * 2)).toList = List.replicate (2 * n) (.slice none 0 0) := by
  apply List.ext_getElem
  · simp [size_madeCells, Nat.mul_comm]
  · intro i h1 h2
    simp only [madeCells, Array.getElem_toList, Array.getElem_map, Array.getElem_range, List.getElem_replicate]
    rcases Nat.mod_two_eq_zero_or_one i with e | e
    · show (#[Value.slice none 0 0, .slice none 0 0] : Array Value)[i % 2]! = _
      rw [e]; rfl
    · show (#[Value.slice none 0 0, .slice none 0 0] : Array Value)[i % 2]! = _
      rw [e]; rfl
theorem Txt.nil (w : World) (F : Nat → Prop) : Txt w F (.slice none 0 0) [] := ⟨none, 0, rfl, Nat.le_refl _, BytesIn.nil _ _ _⟩
section
variable {ts : TypeId} {f : Nat → List Sect} {w w1 : World} {F F' : Nat → Prop} {s : Nat → Value} {X : Nat → List Value}
theorem FilesAt.newRow (h : FilesAt ts f w F s X) {n m g c base : Nat} (hn : n < 2) (hg : w.grownBy w1 none) (ho : w1.ownsRow base ts 2 (.slice (some ⟨g, 0, none⟩) m c) m (List.replicate (2 * m) (.slice none 0 0))) (hgw : w.heap.size ≤ g) (hF : ∀ b, F b → F' b) (hFg : F' g) :
    FilesAt ts (fun j => if j = n then List.replicate m ⟨[], []⟩ else f j) w1 F' (fun j => if j = n then .slice (some ⟨g, 0, none⟩) m c else s j) (fun j => if j = n then List.replicate (2 * m) (.slice none 0 0) else X j) := by
  have hO : Only (fun _ => False) w w1 := Only.of_grown hg fun k e => by cases e
  refine ⟨fun j hj => ?_, ?_, ?_⟩
  · by_cases e : j = n
    · subst e
      rw [if_pos rfl, if_pos rfl, if_pos rfl]
      refine ⟨by rw [List.length_replicate]; exact own_base (Nat.zero_le _) ho, fun b e => ?_, fun i sc hi => ?_⟩
      · have : g = b := by simpa [Value.ownBlock] using e
        subst this
        exact hFg
      · have hi2 := (List.getElem?_eq_some_iff.1 hi)
        obtain ⟨hlt, hx⟩ := hi2
        rw [List.length_replicate] at hlt
        rw [List.getElem_replicate] at hx
        subst hx
        exact ⟨_, _, by rw [List.getElem?_replicate, if_pos (by omega)], by rw [List.getElem?_replicate, if_pos (by omega)], Txt.nil _ _, IsWaits.nil _ _⟩
    · rw [if_neg e, if_neg e, if_neg e]
      exact ((h.file j hj).only hO fun _ _ q => q).mono hF
  · have hlt : ∀ j, j < 2 → ∀ b, (s j).ownBlock = some b → b < w.heap.size := fun j hj b e => ((h.file j hj).1.lt b e).2
    rcases (show n = 0 ∨ n = 1 from by omega) with rfl | rfl
    · right
      rw [if_pos rfl, if_neg (by omega)]
      intro e
      have := hlt 1 (by omega) g e.symm
      omega
    · rw [if_neg (by omega), if_pos rfl]
      cases hs : (s 0).ownBlock with
      | none => exact .inl rfl
      | some b =>
        right
        intro e
        have e' : b = g := by simpa [Value.ownBlock] using e
        have := hlt 0 (by omega) b hs
        omega
  · intro j i j' i' u v hj hj' hne hu hv
    dsimp only at hu hv
    by_cases e : j = n
    · rw [if_pos e] at hu
      have := (List.getElem?_eq_some_iff.1 hu).2
      rw [List.getElem_replicate] at this
      subst this
      exact .inl rfl
    · rw [if_neg e] at hu
      by_cases e' : j' = n
      · rw [if_pos e'] at hv
        have := (List.getElem?_eq_some_iff.1 hv).2
        rw [List.getElem_replicate] at this
        subst this
        cases hx : u.ownBlock with
        | none => exact .inl rfl
        | some b => exact .inr (by simp [Value.ownBlock])
      · rw [if_neg e'] at hv
        exact h.apart j i j' i' u v hj hj' hne hu hv
theorem FilesAt.set1 (h : FilesAt ts f w F s X) (hts : ts ≠ 45) (hts2 : ts ≠ 5) {n k g c : Nat} (hn : n < 2) (hk : k < (f n).length) (es : s n = .slice (some ⟨g, 0, none⟩) (f n).length c) {u : Value} {l : List Nat} (hu : Txt w F' u l) (hFF : ∀ b, F b → F' b) :
    FilesAt ts (putD f n k ⟨l, (f n)[k].waits⟩) (w.setCell ⟨g, 2 * k, none⟩ u) F' s (updX X n ((X n).set (2 * k) u)) := by
  obtain ⟨lw, wv, x1, x2, x3, x4⟩ := (h.file n hn).2.2 k _ (List.getElem?_eq_getElem hk)
  have hb := (h.but n k).mono hFF
  have hr := (hb.row n hn).1
  rw [es] at hr
  have h1 := (hr.stored (2 * k) u).1
  rw [← es] at h1
  have hXl : (X n).length = 2 * (f n).length := by have := hr.1; omega
  refine hb.put hn hts hts2 h1 (lv := u) (wv := wv) ?_ ?_ ?_ ?_ hu (x4.mono hFF) ?_
  · rw [List.getElem?_set_self (by omega)]
  · rw [List.getElem?_set_ne (by omega)]
    exact x2
  · exact fun j h1 h2 => by rw [List.getElem?_set_ne (by omega)]
  · rw [es]
    exact (Only.refl (fun b => (Value.slice (some ⟨g, 0, none⟩) (f n).length c).ownBlock = some b) w).setCell (p := ⟨g, 2 * k, none⟩) (.inl rfl) _
  · intro m i v hm hne hv
    rcases h.apart m i n k v wv hm hn hne hv x2 with z | z
    · exact .inl z
    · exact .inr (.inr z)
end
section
variable {D : DevP} {w w1 : World} {F F' : Nat → Prop} {gp : Nat} {s : Nat → Value} {lv : Value} {X : Nat → List Value}
theorem DevAt.set1 (h : DevAt D w F gp s lv X) {n k g c : Nat} (hn : n < 2) (hk : k < (D.f n).length) (es : s n = .slice (some ⟨g, 0, none⟩) (D.f n).length c) {u : Value} {l : List Nat} (hu : Txt w F' u l) (hFF : ∀ b, F b → F' b) :
    DevAt (D.put n k ⟨l, (D.f n)[k].waits⟩) (w.setCell ⟨g, 2 * k, none⟩ u) F' gp s lv (updX X n ((X n).set (2 * k) u)) := by
  have hr := (h.file n hn).1
  rw [es] at hr
  have hg : Ty w g 71 := own_ty hr rfl
  have hgp : gp ≠ g := fun q => by subst q; exact absurd (h.blk.ty.uniq hg) (by decide)
  refine ⟨h.toFilesAt.set1 (by decide) (by decide) hn hk es hu hFF, h.blk.far hgp _, hFF _ h.inF, IsLeft.mono ?_ hFF⟩
  show IsLeft _ F lv D.left
  cases hl : D.left with
  | none => have := h.left; rw [hl] at this; exact this
  | some q =>
    have := h.left
    rw [hl] at this
    obtain ⟨gl, q1, q2, q3, q4⟩ := this
    have hgl : gl ≠ g := fun q => by subst q; exact absurd (q3.ty.uniq hg) (by decide)
    exact ⟨gl, q1, q2, q3.far hgl _, q4⟩
theorem DevAt.newRow {hal : Bool} {f : Nat → List Sect} (h : DevAt ⟨f, none, hal⟩ w F gp s lv X) {n m g c base : Nat} (hn : n < 2) (hg : w.grownBy w1 none) (ho : w1.ownsRow base 71 2 (.slice (some ⟨g, 0, none⟩) m c) m (List.replicate (2 * m) (.slice none 0 0))) (hgw : w.heap.size ≤ g) (hF : ∀ b, F b → F' b) (hFg : F' g) :
    DevAt ⟨fun j => if j = n then List.replicate m ⟨[], []⟩ else f j, none, hal⟩ (w1.setCell ⟨gp, n, none⟩ (.slice (some ⟨g, 0, none⟩) m c)) F' gp (fun j => if j = n then .slice (some ⟨g, 0, none⟩) m c else s j) lv (fun j => if j = n then List.replicate (2 * m) (.slice none 0 0) else X j) := by
  have hO : Only (fun _ => False) w w1 := Only.of_grown hg fun k e => by cases e
  have hb := h.blk.only hO fun q => q
  have hfar : Far w1 71 (fun b => b = gp) := fun b q _ => by
    subst q
    exact ⟨_, hb.ty, by decide, by decide, by decide⟩
  have ho2 : Only (fun b => b = gp) w1 (w1.setCell ⟨gp, n, none⟩ (.slice (some ⟨g, 0, none⟩) m c)) := (Only.refl (fun b => b = gp) w1).setCell (p := ⟨gp, n, none⟩) (.inl rfl) _
  refine ⟨(h.toFilesAt.newRow hn hg ho hgw hF hFg).far ho2 hfar, ?_, hF _ h.inF, h.left⟩
  have := hb.set_ n (.slice (some ⟨g, 0, none⟩) m c)
  rcases (show n = 0 ∨ n = 1 from by omega) with rfl | rfl
  · simpa using this
  · simpa using this
end
def okN (n : Int) : Prop := 0 ≤ n ∧ n ≤ 4096
def NewPost (a b : Int) (w : World) (e : Ending) (w' : World) : Prop :=
  (okN a ∧ okN b → ∃ p, e = .returned p ∧ IsDev (DevP.new a.toNat b.toNat) w' (fun x => w.heap.size ≤ x ∧ x < w'.heap.size) p) ∧ (¬ (okN a ∧ okN b) → e = .returned (.pointer none)) ∧ Below w.heap.size w w'
def selN (a b : Int) (q : Nat) : Int := if q = 0 then a else b
theorem idx_run (a b : Int) (q : Nat) (hq : q < 2) (W : World) : (Instr.index 116 (.agg #[.int .i64 a, .int .i64 b]) (.int .i64 (q : Int))).run Tryz.prog W = .ok (.int .i64 (selN a b q)) W := by
  rcases (show q = 0 ∨ q = 1 from by omega) with rfl | rfl
  · rfl
  · rfl
def zeroS : Sect := ⟨List.replicate 128 0, []⟩
def newF (a b : Int) (q m : Nat) : List Sect := if m < q then List.replicate (selN a b m).toNat zeroS else []
theorem newF_next (a b : Int) (q : Nat) : (fun m => if m = q then ((if m = q then List.replicate (selN a b q).toNat ⟨[], []⟩ else newF a b q m) : List Sect).mapIdx (fun _ _ => zeroS) else (if m = q then List.replicate (selN a b q).toNat ⟨[], []⟩ else newF a b q m)) = newF a b (q + 1) := by
  funext m
  by_cases e : m = q
  · subst e
    rw [if_pos rfl, if_pos rfl]
    unfold newF
    rw [if_pos (by omega)]
    apply List.ext_getElem
    · simp
    · intro i h1 h2
      simp
  · rw [if_neg e, if_neg e]
    unfold newF
    by_cases h : m < q
    · rw [if_pos h, if_pos (by omega)]
    · rw [if_neg h, if_neg (by omega)]
def newB (w w' : World) (x : Nat) : Prop := w.heap.size ≤ x ∧ x < w'.heap.size
set_option maxHeartbeats 2000000 in
theorem new_any (a b : Int) (w : World) :
    Calls Tryz.prog 14 #[.int .i64 a, .int .i64 b] w (NewPost a b w) := by
  have HIDX := Lib.hid (idx_run a b)
  obtain ⟨is, his, hzs, hss, hbs⟩ := info_parts sector_info
  obtain ⟨iu, hiu, hzu, hsu, hbu⟩ := info_parts u8_info
  go_enter Tryz.func14, Tryz.ntmps14
  go_wp2_with fail
  have hstart : DevAt ⟨newF a b 0, none, false⟩ (w.alloc (.cells #[.slice none 0 0, .slice none 0 0, .pointer none, .bool false] 67)) (newB w (w.alloc (.cells #[.slice none 0 0, .slice none 0 0, .pointer none, .bool false] 67))) w.heap.size (fun _ => .slice none 0 0) (.pointer none) (fun _ => []) := by
    refine ⟨⟨fun n hn => ⟨?_, (fun b e => by cases e), fun i s e => by cases e⟩, .inl rfl, fun f i g j u v _ _ _ hu => by cases hu⟩, Blk.new _ _ _, ⟨Nat.le_refl _, by simp⟩, rfl⟩
    exact World.ownsRow_nil _ _ _ _
  have hbst : Below w.heap.size w (w.alloc (.cells #[.slice none 0 0, .slice none 0 0, .pointer none, .bool false] 67)) := (Below.refl _ _).alloc (Nat.le_refl _) _
  go_loopw [14, 6, 7, 8] (fun i _ _ _ wr => ∃ q : Nat, q ≤ 2 ∧ i = .int .i64 q ∧ (∀ m, m < q → okN (selN a b m)) ∧ (∃ s X, DevAt ⟨newF a b q, none, false⟩ wr (newB w wr) w.heap.size s (.pointer none) X) ∧ Below w.heap.size w wr) (fun i _ _ _ _ => 2 - (intOf i).toNat)
  case atStart => exact ⟨0, by omega, rfl, fun m h => absurd h (by omega), ⟨_, _, hstart⟩, hbst⟩
  case round =>
    clear hstart hbst
    obtain ⟨q, hq, rfl, hok, ⟨s, X, hd⟩, hb⟩ := hrel
    rcases Nat.lt_or_ge q 2 with hlt | hge
    · have e1 : decide ((q : Int) < 2) = true := by rw [decide_eq_true_iff]; omega
      have e2 : (0 : Int) ≤ (q : Int) := by omega
      have e3 : (q : Int) < 2 := by omega
      have hi := HIDX.out q hlt
      have hbad : ¬ okN (selN a b q) → ¬ (okN a ∧ okN b) := fun hx hy => by
        rcases (show q = 0 ∨ q = 1 from by omega) with rfl | rfl
        · exact hx hy.1
        · exact hx hy.2
      generalize hsel : selN a b q = x at *
      have HSEL := Lib.hid hsel
      by_cases hx : okN x
      · obtain ⟨h0, h1⟩ := hx
        obtain ⟨n, rfl⟩ := Int.eq_ofNat_of_zero_le h0
        have t1 : decide ((n : Int) < 0) = false := by rw [decide_eq_false_iff_not]; omega
        have t2 : decide ((4096 : Int) < (n : Int)) = false := by rw [decide_eq_false_iff_not]; omega
        have hwr := hb.size
        obtain ⟨wm, hrun, hom, hgm⟩ := run_make_full (P := Tryz.prog) (w := wr.drew) wr.heap.size 62 71 is _ 2 Tryz.underlying62 his hzs hss .i64 .i64 n (by rw [hbs]; omega) (by unfold maxLen; omega) (Nat.le_refl _)
        replace hom : wm.ownsRow wr.heap.size 71 2 (.slice (some ⟨wr.heap.size, 0, none⟩) n n) n (List.replicate (2 * n) (.slice none 0 0)) := by
          rw [← madeCells_nil2]
          exact hom
        have hwm := (hom.lt wr.heap.size rfl).2
        have hgm' : wr.grownBy wm none := ⟨hgm.os, hgm.tape, hgm.output, hgm.size, hgm.block⟩
        have hnr := DevAt.newRow (F' := newB w wm) hd hlt hgm' hom (Nat.le_refl _) (fun y z => ⟨z.1, Nat.lt_of_lt_of_le z.2 hgm'.size⟩) ⟨hwr, hwm⟩
        have hbp : Blk wm w.heap.size 67 #[s 0, s 1, .pointer none, .bool false] := hd.blk.grown hgm' (by simp)
        have hbm : Below w.heap.size w wm := hb.grown hgm' hwr (fun k e => by cases e)
        have c0 := hd.blk.cell q
        have c1 := hbp.cell q
        have f1 := hbp.frozen q
        have hv : ∃ v, (#[s 0, s 1, .pointer none, .bool false] : Array Value)[q]? = some v := by
          rcases (show q = 0 ∨ q = 1 from by omega) with rfl | rfl
          · exact ⟨_, rfl⟩
          · exact ⟨_, rfl⟩
        obtain ⟨v, hv⟩ := hv
        rw [hv] at c0 c1
        have HNR := Lib.hid (And.intro hnr hbm)
        have hrun' : (Instr.makeSlice 62 (.int .i64 (n : Int)) (.int .i64 (n : Int))).run Tryz.prog wr.drew = .ok (.slice (some ⟨wr.heap.size, 0, none⟩) n n) wm := hrun
        clear hnr hbm hd hgm hgm' hom hbp hrun hv
        go_wp2_with fail
        go_region
        all_goals go_wp2_with fail
        generalize hW1 : World.setCell wm _ _ = W1 at *
        have hsz1 : W1.heap.size = wm.heap.size := by rw [← hW1]; simp [World.setCell]
        have hbm1 : Below w.heap.size w W1 := by rw [← hW1]; exact HNR.out.2.setCell (by exact Nat.le_refl _) _
        have hd1 := HNR.out.1
        generalize hs1 : (fun j => if j = q then Value.slice (some ⟨wr.heap.size, 0, none⟩) n n else s j) = s1 at *
        have hs1q : s1 q = .slice (some ⟨wr.heap.size, 0, none⟩) n n := by rw [← hs1]; exact if_pos rfl
        generalize hf1 : (fun j => if j = q then List.replicate n ⟨[], []⟩ else newF a b q j) = f1 at *
        have hf1q : f1 q = List.replicate n ⟨[], []⟩ := by rw [← hf1]; exact if_pos rfl
        have hfn : (fun m => if m = q then (f1 m).mapIdx (fun _ _ => zeroS) else f1 m) = newF a b (q + 1) := by
          have := newF_next a b q
          rw [hsel, Int.toNat_natCast] at this
          rw [← hf1]
          exact this
        obtain ⟨X1, hd2⟩ : ∃ X1, DevAt ⟨f1, none, false⟩ W1 (newB w W1) w.heap.size s1 (.pointer none) X1 := by
          have hnew : newB w wm = newB w W1 := by unfold newB; rw [hsz1]
          rw [hnew] at hd1
          exact ⟨_, hd1⟩
        have HFN := Lib.hid hfn
        have HS1 := Lib.hid hs1q
        have HF1 := Lib.hid hf1q
        clear hd1 HNR hs1 hf1 hW1 hfn hs1q hf1q c0 c1 hrun' hi hbad hsel
        obtain ⟨g, hg⟩ : ∃ g, wr.heap.size = g := ⟨_, rfl⟩
        rw [hg] at HS1 ⊢
        clear hg
        go_loopw [38, 8] (fun i _ wr => ∃ k : Nat, k ≤ n ∧ i = .int .i64 k ∧ (∃ X, DevAt ⟨stepF f1 q (fun _ _ => zeroS) k, none, false⟩ wr (newB w wr) w.heap.size s1 (.pointer none) X) ∧ Below w.heap.size w wr) (fun i _ _ => n - (intOf i).toNat)
        case atStart => exact ⟨0, by omega, rfl, ⟨_, by rw [stepF_zero]; exact hd2⟩, hbm1⟩
        case round =>
          clear hd2 hbm1
          obtain ⟨k, hk, rfl, ⟨Xk, hd⟩, hb⟩ := hrel
          rcases Nat.lt_or_ge k n with hlt2 | hge
          · have e4 : decide ((k : Int) < (n : Int)) = true := by rw [decide_eq_true_iff]; omega
            have e5 : (0 : Int) ≤ (k : Int) := by omega
            have e6 : (k : Int) < (n : Int) := by omega
            have hk1 : k < (f1 q).length := by rw [HF1.out, List.length_replicate]; exact hlt2
            have hk2 : k < (stepF f1 q (fun _ _ => zeroS) k q).length := by rw [stepF_length]; exact hk1
            have hl2 : (stepF f1 q (fun _ _ => zeroS) k q).length = n := by rw [stepF_length, HF1.out, List.length_replicate]
            have hAt := stepF_at f1 q (fun _ _ => zeroS) hk1 hk2
            have hnx := stepF_next f1 q (fun _ _ => zeroS) hk1
            have hwt : ((stepF f1 q (fun _ _ => zeroS) k q)[k]).waits = [] := by
              rw [hAt]
              have : (f1 q)[k]'hk1 = ⟨[], []⟩ := by
                have := HF1.out
                simp only [this, List.getElem_replicate]
              rw [this]
            obtain ⟨wm2, hrun, hom, hgm⟩ := run_make_full (P := Tryz.prog) (w := wr.drew) wr.heap.size 45 5 iu _ 1 Tryz.underlying45 hiu hzu hsu .i64 .i64 128 (by rw [hbu]; omega) (by unfold maxLen; omega) (Nat.le_refl _)
            have hrun' : (Instr.makeSlice 45 (.int .i64 128) (.int .i64 128)).run Tryz.prog wr.drew = .ok (.slice (some ⟨wr.heap.size, 0, none⟩) 128 128) wm2 := hrun
            have hom2 : wm2.ownsRow wr.heap.size 5 1 (.slice (some ⟨wr.heap.size, 0, none⟩) 128 128) 128 ((List.replicate 128 0).map byteV) := by
              have e : (madeCells (Value.int .u8 0).cells (128 * 1)).toList = (List.replicate 128 0).map byteV := by
                rw [Nat.mul_one, List.map_replicate]
                exact toList_madeCells_one _ 128
              rw [← e]
              exact hom
            have hwm := (hom.lt wr.heap.size rfl).2
            have hwr := hb.size
            have hgm' : wr.grownBy wm2 none := ⟨hgm.os, hgm.tape, hgm.output, hgm.size, hgm.block⟩
            have hbb : Below wr.heap.size wr wm2 := (Below.refl _ _).grown hgm' (Nat.le_refl _) (fun k e => by cases e)
            have hgs := hgm'.size
            have hd3 := hd.grown (F' := newB w wm2) hbb (fun y z => ⟨z.1, Nat.lt_of_lt_of_le z.2 hgs⟩)
            have htx : Txt wm2 (newB w wm2) (.slice (some ⟨wr.heap.size, 0, none⟩) 128 128) (List.replicate 128 0) := Txt.own hom2 List.length_replicate (replicate_small 128) fun b e => by
              have : wr.heap.size = b := by simpa [Value.ownBlock] using e
              subst this
              exact ⟨hwr, hwm⟩
            have hset := DevAt.set1 (n := q) (k := k) (g := g) (c := n) hd3 hlt hk2 (by rw [HS1.out]; show _ = Value.slice _ (stepF f1 q (fun _ _ => zeroS) k q).length _; rw [hl2]) htx (fun b z => z)
            have hp : (DevP.put ⟨stepF f1 q (fun _ _ => zeroS) k, none, false⟩ q k ⟨List.replicate 128 0, ((stepF f1 q (fun _ _ => zeroS) k q)[k]).waits⟩) = ⟨stepF f1 q (fun _ _ => zeroS) (k + 1), none, false⟩ := by
              unfold DevP.put
              rw [← hnx, hwt]
              rfl
            obtain ⟨X9, hset'⟩ : ∃ X9, DevAt (DevP.put ⟨stepF f1 q (fun _ _ => zeroS) k, none, false⟩ q k ⟨List.replicate 128 0, ((stepF f1 q (fun _ _ => zeroS) k q)[k]).waits⟩) (wm2.setCell ⟨g, 2 * k, none⟩ (.slice (some ⟨wr.heap.size, 0, none⟩) 128 128)) (newB w wm2) w.heap.size s1 (.pointer none) X9 := ⟨_, hset⟩
            rw [hp, Nat.mul_comm 2 k] at hset'
            have hrow := (hd3.file q hlt).1
            rw [HS1.out, show (DevP.f ⟨stepF f1 q (fun _ _ => zeroS) k, none, false⟩ q).length = n from hl2] at hrow
            have hfz := hrow.frozenAt (k * 2)
            have hgl := (hrow.lt g rfl)
            obtain ⟨vc, hvc⟩ : ∃ v, wm2.cell? ⟨g, k * 2, none⟩ = some v := by
              have := hrow.cellAt (k * 2) (by omega)
              have hl := hrow.1
              rw [List.getElem?_eq_getElem (by omega)] at this
              exact ⟨_, this⟩
            have hgb : w.heap.size ≤ g := by
              have := (hd3.file q hlt).2.1 g (by rw [HS1.out]; rfl)
              exact this.1
            have c0 : wr.cell? ⟨w.heap.size, q, none⟩ = some (.slice (some ⟨g, 0, none⟩) n n) := by
              refine (hd.blk.cell q).trans ?_
              rw [← HS1.out]
              rcases (show q = 0 ∨ q = 1 from by omega) with rfl | rfl <;> rfl
            have c1 : wm2.cell? ⟨w.heap.size, q, none⟩ = some (.slice (some ⟨g, 0, none⟩) n n) := by
              refine (hd3.blk.cell q).trans ?_
              rw [← HS1.out]
              rcases (show q = 0 ∨ q = 1 from by omega) with rfl | rfl <;> rfl
            have hfinal : (∃ X, DevAt ⟨stepF f1 q (fun _ _ => zeroS) (k + 1), none, false⟩ (wm2.setCell ⟨g, k * 2, none⟩ (.slice (some ⟨wr.heap.size, 0, none⟩) 128 128)) (newB w (wm2.setCell ⟨g, k * 2, none⟩ (.slice (some ⟨wr.heap.size, 0, none⟩) 128 128))) w.heap.size s1 (.pointer none) X) ∧ Below w.heap.size w (wm2.setCell ⟨g, k * 2, none⟩ (.slice (some ⟨wr.heap.size, 0, none⟩) 128 128)) := by
              refine ⟨⟨X9, ?_⟩, (hb.trans (hbb.mono hwr)).setCell (p := ⟨g, k * 2, none⟩) hgb _⟩
              unfold newB
              rw [show (wm2.setCell ⟨g, k * 2, none⟩ (.slice (some ⟨wr.heap.size, 0, none⟩) 128 128)).heap.size = wm2.heap.size by simp [World.setCell]]
              exact hset'
            have HFINAL := Lib.hid hfinal
            clear hfinal hset hset' hp htx hd3 hd hnx hAt hwt hl2 hom hom2 hgm hgm' hrun hrow hbb hk1 hk2
            go_wp2_with fail
            go_region
            all_goals
              go_wp2
              go_roundw
              case rel => exact ⟨k + 1, by omega, by go_num, HFINAL.out⟩
              case measure => simp [intOf]; omega
          · obtain rfl : k = n := by omega
            have e4 : decide ((k : Int) < (k : Int)) = false := by rw [decide_eq_false_iff_not]; omega
            rw [stepF_all f1 q _ (by rw [HF1.out, List.length_replicate]), HFN.out] at hd
            have HD := Lib.hid (And.intro hd hb)
            clear hd hb
            go_wp2
            go_roundw
            case rel => exact ⟨q + 1, by omega, by go_num, (fun m hm => by
              rcases Nat.lt_or_ge m q with z | z
              · exact hok m z
              · obtain rfl : m = q := by omega
                rw [HSEL.out]
                exact ⟨by omega, h1⟩), ⟨s1, Xk, HD.out.1⟩, HD.out.2⟩
            case measure => simp [intOf]; omega
      · have hb1 := hbad hx
        have hfin : ∀ w', Below w.heap.size w w' → NewPost a b w (.returned (.pointer none)) w' := fun w' h => ⟨fun h' => absurd h' hb1, fun _ => rfl, h⟩
        have HF := Lib.hid hfin
        clear hfin hb1 hbad hd hok HIDX
        by_cases hneg : x < 0
        · have t1 : decide (x < 0) = true := by rw [decide_eq_true_iff]; exact hneg
          go_wp2
          go_ret
          exact HF.out _ hb
        · have t1 : decide (x < 0) = false := by rw [decide_eq_false_iff_not]; exact hneg
          have t2 : decide (4096 < x) = true := by
            rw [decide_eq_true_iff]
            unfold okN at hx
            omega
          go_wp2
          go_ret
          exact HF.out _ hb
    · obtain rfl : q = 2 := by omega
      have hfin : NewPost a b w (.returned (.pointer (some ⟨w.heap.size, 0, none⟩))) wr := by
        have ha := hok 0 (by omega)
        have hbo := hok 1 (by omega)
        refine ⟨fun _ => ⟨_, rfl, ⟨w.heap.size, s, .pointer none, X, rfl, ?_⟩⟩, fun h => absurd ⟨ha, hbo⟩ h, hb⟩
        have e : ∀ n, n < 2 → newF a b 2 n = (DevP.new a.toNat b.toNat).f n := fun n hn => by
          unfold newF
          rw [if_pos hn]
          rcases (show n = 0 ∨ n = 1 from by omega) with rfl | rfl <;> rfl
        refine ⟨⟨fun n hn => ?_, hd.rows, hd.apart⟩, hd.blk, hd.inF, hd.left⟩
        rw [← e n hn]
        exact hd.file n hn
      have HF := Lib.hid hfin
      clear hfin hd hok HIDX
      go_wp2
      go_ret
      exact HF.out
end Go.Proofs.YtkganajbilnanaaGreat
namespace Go.Proofs.YtkganajbilnanaaGreat
open Go.ChangeShapes Go.WideShapes Go.ChangeAt Go.RowKit
structure Dv (D : DevP) (w0 w : World) (F : Nat → Prop) (p : Value) : Prop where
  dev : IsDev D w F p
  hi : ∀ b, F b → b < w.heap.size
  lo : ∀ b, F b → w0.heap.size ≤ b
section
variable {D D' : DevP} {w0 w w' : World} {F : Nat → Prop} {p : Value} {A : Option Addr} {l : List Nat} {c n : Nat}
theorem Dv.below (h : Dv D w0 w F p) (hb : Below w.heap.size w w') : Dv D w0 w' F p := ⟨h.dev.below hb, fun b q => Nat.lt_of_lt_of_le (h.hi b q) hb.size, h.lo⟩
theorem out_post (hb : BytesIn w (fun b => ¬ F b) A l) (ho : Only F w w') : BytesIn w' (fun b => ¬ grow F w w' b) A l := by
  have h1 := hb.only ho fun b q => q
  refine ⟨fun j hj => ?_, h1.2⟩
  obtain ⟨b, o, e, q1, q2, q3⟩ := hb.1 j hj
  obtain ⟨b', o', e', q1', q2', q3'⟩ := h1.1 j hj
  rw [e] at e'
  injection e' with e'
  injection e' with e1 e2
  subst e1
  subst e2
  exact ⟨b, o, e, fun z => z.elim q1 fun y => by omega, q2', q3'⟩
theorem out_below (hb : BytesIn w (fun b => ¬ F b) A l) (h : Below w.heap.size w w') : BytesIn w' (fun b => ¬ F b) A l := hb.only (Only.of_below h (fun _ => False)) fun _ _ q => q
theorem out_own (h : w'.ownsRow w.heap.size 5 1 (.slice A n c) n (l.map byteV)) (hs : Small l) (hF : ∀ b, F b → b < w.heap.size) : BytesIn w' (fun b => ¬ F b) A l := by
  refine ⟨(AtIn.own h).mono fun b q z => ?_, hs⟩
  have := (h.lt b q.symm).1
  have := hF b z
  omega
end
def OutT (w : World) (F : Nat → Prop) (v : Value) (l : List Nat) : Prop := Txt w (fun b => ¬ F b) v l
section
variable {w w' : World} {F : Nat → Prop} {v : Value} {l : List Nat}
theorem OutT.own {A : Option Addr} {c n : Nat} (h : w'.ownsRow w.heap.size 5 1 (.slice A n c) n (l.map byteV)) (hn : l.length = n) (hs : Small l) (hF : ∀ b, F b → b < w.heap.size) : OutT w' F (.slice A n c) l :=
  Txt.own h hn hs fun b e z => by have := (h.lt b e).1; have := hF b z; omega
theorem OutT.bytes (h : OutT w F v l) : ∃ A c, v = .slice A l.length c ∧ l.length ≤ c ∧ BytesIn w (fun b => ¬ F b) A l := by
  obtain ⟨A, c, e, hc, hb⟩ := h
  exact ⟨A, c, e, hc, hb.mono fun b q => q.1⟩
end
def Outs (w : World) (F : Nat → Prop) (L : List Value) (ls : List (List Nat)) : Prop := L.length = ls.length ∧ ∀ (j : Nat) (l : List Nat), ls[j]? = some l → ∃ u, L[j]? = some u ∧ OutT w F u l
section
variable {w w' : World} {F : Nat → Prop} {L : List Value} {ls : List (List Nat)}
theorem Outs.nil (w : World) (F : Nat → Prop) : Outs w F [] [] := ⟨rfl, fun j l h => by simp at h⟩
end
end Go.Proofs.YtkganajbilnanaaGreat
namespace Go.Proofs.YtkganajbilnanaaGreat
open Go.ChangeShapes Go.WideShapes Go.RowKit Go.Deep Go.Joins
set_option maxRecDepth 20000
section
variable {H : Type} {enc : TypeId × Value → H} {w : World} {base b0 fuel : Nat} {held : Bool} {v : Value} {d : DataW H} {p : List MemPlace} {x : DataW H × List MemPlace}
theorem dtr8 (h : DataW.trod enc Tryz.prog w b0 (fun _ => true) held fuel 5 [v] = some x) : ∃ n : Nat, v = .int .u8 n ∧ n < 256 := by
  obtain ⟨n, hcs, _, hw⟩ := DataW.trod_int Tryz.underlying5 h
  have := wf_u8 hw
  obtain ⟨m, rfl⟩ : ∃ m : Nat, n = m := ⟨n.toNat, by omega⟩
  exact ⟨m, by simpa using hcs, by omega⟩
theorem trI (h : DataW.trod enc Tryz.prog w b0 (fun _ => true) held fuel 3 [v] = some x) : ∃ n : Int, v = .int .i64 n ∧ (Lit.int .i64 n).wf = true := by
  obtain ⟨n, hcs, _, hw⟩ := DataW.trod_int Tryz.underlying3 h
  exact ⟨n, by simpa using hcs, hw⟩
theorem dc8 : Tryz.prog.cellsOf 5 = 1 := by kernel_rfl
theorem cI : Tryz.prog.cellsOf 3 = 1 := by kernel_rfl
theorem cFate : Tryz.prog.cellsOf 121 = 4 := by kernel_rfl
theorem dlist4 {α : Type} {l : List α} (h : l.length = 4) : ∃ a b c d, l = [a, b, c, d] := by
  match l, h with
  | [a, b, c, d], _ => exact ⟨a, b, c, d, rfl⟩
theorem dfield_at {fs : Array Field} {n : Nat} {cs : List Value} {xs : List (DataW H × List MemPlace)} (hg : ∀ (i : Nat) (f : Field), fs[i]? = some f → DataW.trod enc Tryz.prog w b0 (fun _ => true) held n f.type ((cs.drop f.offset).take (Tryz.prog.cellsOf f.type)) = xs[i]?)
    (i : Nat) (t : TypeId) (off k : Nat) (hf : (fs[i]?).map (fun f => (f.type, f.offset)) = some (t, off)) (hc : Tryz.prog.cellsOf t = k) (hl : i < xs.length) : ∃ y, DataW.trod enc Tryz.prog w b0 (fun _ => true) held n t ((cs.drop off).take k) = some y := by
  obtain ⟨f, h1, h2⟩ := Option.map_eq_some_iff.1 hf
  simp only [Prod.mk.injEq] at h2
  obtain ⟨rfl, rfl⟩ := h2
  have := hg i f h1
  rw [hc] at this
  exact ⟨_, this.trans (List.getElem?_eq_getElem hl)⟩
theorem fate_trod {v0 v1 v2 v3 : Value} (h : DataW.trod enc Tryz.prog w b0 (fun _ => true) held fuel 121 [v0, v1, v2, v3] = some x) : ∃ y : FateP, [v0, v1, v2, v3] = fateCells y ∧ y.file < 256 := by
  obtain ⟨xs, n, _, _, _, hlen, hg⟩ := DataW.trod_struct Tryz.underlying121 h
  obtain ⟨_, g0⟩ := dfield_at hg 0 5 0 1 rfl dc8 (by rw [hlen]; decide)
  obtain ⟨_, g1⟩ := dfield_at hg 1 3 1 1 rfl cI (by rw [hlen]; decide)
  obtain ⟨_, g2⟩ := dfield_at hg 2 3 2 1 rfl cI (by rw [hlen]; decide)
  obtain ⟨_, g3⟩ := dfield_at hg 3 3 3 1 rfl cI (by rw [hlen]; decide)
  simp only [List.drop_zero, List.drop_succ_cons, List.take_succ_cons, List.take_zero] at g0 g1 g2 g3
  obtain ⟨a, rfl, f0⟩ := dtr8 g0
  obtain ⟨b, rfl, f1⟩ := trI g1
  obtain ⟨c, rfl, f2⟩ := trI g2
  obtain ⟨e, rfl, f3⟩ := trI g3
  exact ⟨⟨a, b, c, e⟩, rfl, f0⟩
end
structure OpP where
  kind : Nat
  file : Nat
  sector : Int
  data : List Nat
  fates : List FateP
instance : Inhabited FateP := ⟨⟨0, 0, 0, 0⟩⟩
instance : Inhabited OpP := ⟨⟨0, 0, 0, [], []⟩⟩
def IsFates (w : World) (v : Value) : Prop := ∃ A c l, v = .slice A l.length c ∧ FatesAt w w.heap.size A l
theorem fates_of {w : World} {a : Addr} {n : Nat} {y : Nat → FateP} (h : ∀ i, i < n → (y i).file < 256 ∧ ∀ j, j < 4 → w.cell? (a.add (i * 4 + j)) = (fateCells (y i))[j]?) : FatesAt w w.heap.size (some a) ((List.range n).map y) := by
  refine ⟨fun j hj => ?_, fun x hx => ?_⟩
  · rw [flat_length, List.length_map, List.length_range] at hj
    have hn : 0 < n := by omega
    have h0 := (h 0 hn).2 0 (by omega)
    rw [Nat.zero_mul, Nat.zero_add] at h0
    obtain ⟨b, o, rfl, hb⟩ := addr_form (v := .int .u8 ((y 0).file : Int)) h0
    have hi : j / 4 < ((List.range n).map y).length := by simp; omega
    have hm : j % 4 < 4 := by omega
    have hc := (h (j / 4) (by omega)).2 (j % 4) hm
    rw [add_none, show j / 4 * 4 + j % 4 = j by omega] at hc
    refine ⟨b, o, rfl, hb, ?_⟩
    rw [hc, ← List.getElem?_eq_getElem]
    obtain ⟨f0, f1, f2, f3⟩ := flat_at hi
    simp only [List.getElem_map, List.getElem_range] at f0 f1 f2 f3
    rcases (show j % 4 = 0 ∨ j % 4 = 1 ∨ j % 4 = 2 ∨ j % 4 = 3 by omega) with e | e | e | e
    · rw [e]; conv => rhs; rw [show j = 4 * (j / 4) by omega]
      rw [f0]; rfl
    · rw [e]; conv => rhs; rw [show j = 4 * (j / 4) + 1 by omega]
      rw [f1]; rfl
    · rw [e]; conv => rhs; rw [show j = 4 * (j / 4) + 2 by omega]
      rw [f2]; rfl
    · rw [e]; conv => rhs; rw [show j = 4 * (j / 4) + 3 by omega]
      rw [f3]; rfl
  · obtain ⟨i, hi, rfl⟩ := List.mem_map.1 hx
    exact (h i (List.mem_range.1 hi)).1
section
variable {H : Type} {enc : TypeId × Value → H} {w : World} {base b0 fuel : Nat} {held : Bool} {v : Value} {d : DataW H} {p : List MemPlace} {x : DataW H × List MemPlace}
theorem fates_trod (h : DataW.trod enc Tryz.prog w b0 (fun _ => true) held fuel 52 [v] = some x) : IsFates w v := by
  rcases open_slice Tryz.underlying52 h with ⟨hcs, _⟩ | ⟨a, len, cap, m, n, D, Pl, hcs, _, hl, hm, hmm, _, hi⟩
  · simp only [List.cons.injEq, and_true] at hcs
    exact ⟨none, 0, [], hcs, At.nil _ _ _, fun x hx => by cases hx⟩
  · simp only [List.cons.injEq, and_true] at hcs
    have hlm : len ≤ m := by rw [hmm]; split <;> omega
    rw [cFate] at hi
    have each : ∀ i, i < len → ∃ y : FateP, y.file < 256 ∧ ∀ j, j < 4 → w.cell? (a.add (i * 4 + j)) = (fateCells y)[j]? := fun i hil => by
      obtain ⟨cs', hc, ht⟩ := hi i (by omega)
      obtain ⟨_, hcl, hat⟩ := World.cells?_some hc
      obtain ⟨v0, v1, v2, v3, rfl⟩ := dlist4 hcl
      obtain ⟨y, e, hy⟩ := fate_trod ht
      refine ⟨y, hy, fun j hj => ?_⟩
      rw [← e, ← Go.Deep.add_add, hat j hj]
    obtain ⟨y, hy⟩ := choose_lt each
    exact ⟨some a, cap, (List.range len).map y, by rw [List.length_map, List.length_range]; exact hcs, fates_of hy⟩
end
end Go.Proofs.YtkganajbilnanaaGreat
