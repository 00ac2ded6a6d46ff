/- The document's device: Open. Conditions: what is handed in reads as bytes. -/
import Derived.Test.YtnbbneldbagohaaRNew
namespace Go.Proofs.Ytnbbneldbagohaa
open Go.ChangeShapes Go.WideShapes Go.ChangeAt Go.RowKit
set_option linter.unusedVariables false
set_option linter.unusedSimpArgs false
set_option maxRecDepth 20000

/-- sectors of what lasts -/
def lastS (ls : List (List Nat)) : List Sect := ls.map fun l => ⟨l, []⟩
def okL (ls : List (List Nat)) : Prop := ∀ l ∈ ls, l.length = 128
def openP (la lb : List (List Nat)) : DevP := ⟨fun n => if n = 0 then lastS la else if n = 1 then lastS lb else [], none, false⟩
theorem lastS_next {ls : List (List Nat)} {k : Nat} (h : k < ls.length) : lastS (ls.take (k + 1)) = lastS (ls.take k) ++ [⟨ls[k], []⟩] := by
  unfold lastS
  rw [List.take_succ_eq_append_getElem h, List.map_append]
  rfl
theorem good_open {la lb : List (List Nat)} (ha : okL la) (hb : okL lb) (h1 : la.length ≤ 4096) (h2 : lb.length ≤ 4096) : (openP la lb).good 0 := fun n hn => by
  have key : ∀ ls, okL ls → ls.length ≤ 4096 → (lastS ls).length ≤ 4096 ∧ ∀ s ∈ lastS ls, s.last.length = 128 ∧ s.waits.length ≤ 0 ∧ ∀ l ∈ s.waits, l.length = 128 := fun ls h hl => by
    refine ⟨by unfold lastS; rw [List.length_map]; exact hl, fun s hs => ?_⟩
    obtain ⟨l, hl, rfl⟩ := List.mem_map.1 hs
    exact ⟨h l hl, Nat.le_refl _, fun x hx => by cases hx⟩
  rcases (show n = 0 ∨ n = 1 from by omega) with rfl | rfl
  · exact key la ha h1
  · exact key lb hb h2
/-- a row of sectors of which nothing waits -/
structure RowS (ts : TypeId) (w : World) (base : Nat) (v : Value) (X : List Value) (ls : List (List Nat)) : Prop where
  own : w.ownsRow base ts 2 v ls.length X
  at_ : ∀ (i : Nat) (l : List Nat), ls[i]? = some l → ∃ u, X[2 * i]? = some u ∧ X[2 * i + 1]? = some (.slice none 0 0) ∧ Txt w (fun b => base ≤ b ∧ b < w.heap.size) u l
section
variable {ts : TypeId} {w w1 : World} {base : Nat} {v v' u : Value} {X : List Value} {ls : List (List Nat)} {l : List Nat}
theorem RowS.odd (h : RowS ts w base v X ls) {i : Nat} {u : Value} (e : X[2 * i + 1]? = some u) : u = .slice none 0 0 := by
  have hl := h.own.1
  have hi := (List.getElem?_eq_some_iff.1 e).1
  obtain ⟨_, _, e2, _⟩ := h.at_ i _ (List.getElem?_eq_getElem (show i < ls.length by omega))
  rw [e] at e2
  injection e2
theorem RowS.nil (ts : TypeId) (w : World) (base : Nat) : RowS ts w base (.slice none 0 0) [] [] := ⟨World.ownsRow_nil _ _ _ _, fun i l h => by simp at h⟩
theorem RowS.only {S : Nat → Prop} {w' : World} (h : RowS ts w base v X ls) (ho : Only S w w') (h1 : ∀ b, base ≤ b → b < w.heap.size → ¬ S b) : RowS ts w' base v X ls :=
  ⟨ho.own h.own fun b e => h1 b (h.own.lt b e).1 (h.own.lt b e).2, fun i l e => by
    obtain ⟨u, e1, e2, e3⟩ := h.at_ i l e
    exact ⟨u, e1, e2, (e3.only ho fun b z _ => h1 b z.1 z.2).mono fun b z _ => ⟨z.1, Nat.lt_of_lt_of_le z.2 ho.size⟩⟩⟩
theorem RowS.below {w' : World} (h : RowS ts w base v X ls) (hb : Below w.heap.size w w') : RowS ts w' base v X ls := h.only (Only.of_below hb (fun _ => False)) fun _ _ _ q => q
theorem RowS.snoc (h : RowS ts w base v X ls) (hts : ts ≠ 5) (ho : w1.ownsRow base ts 2 v' (ls.length + 1) (X ++ [u, .slice none 0 0])) (hg : w.grownBy w1 v.ownBlock) (hu : Txt w1 (fun b => base ≤ b ∧ b < w1.heap.size) u l) : RowS ts w1 base v' (X ++ [u, .slice none 0 0]) (ls ++ [l]) := by
  have hO : Only (fun b => v.ownBlock = some b) w w1 := Only.of_grown hg fun b e => .inl e
  have hXl : X.length = 2 * ls.length := by have := h.own.1; omega
  refine ⟨by rw [List.length_append]; exact ho, fun i m e => ?_⟩
  rcases Nat.lt_trichotomy i ls.length with q | q | q
  · rw [List.getElem?_append_left q] at e
    obtain ⟨t, e1, e2, e3⟩ := h.at_ i m e
    exact ⟨t, by rw [List.getElem?_append_left (by omega)]; exact e1, by rw [List.getElem?_append_left (by omega)]; exact e2, (e3.only hO fun b z hz e' => hts ((own_ty h.own e').uniq hz)).mono fun b z _ => ⟨z.1, Nat.lt_of_lt_of_le z.2 hO.size⟩⟩
  · subst q
    rw [List.getElem?_append_right (Nat.le_refl _), Nat.sub_self] at e
    injection e with e
    subst e
    exact ⟨u, by rw [List.getElem?_append_right (by omega), hXl, Nat.sub_self]; rfl, by rw [List.getElem?_append_right (by omega), hXl, Nat.add_sub_cancel_left]; rfl, hu⟩
  · rw [List.getElem?_eq_none (by simp; omega)] at e
    cases e
theorem RowS.file (h : RowS ts w base v X ls) {F : Nat → Prop} (hF : ∀ b, base ≤ b → b < w.heap.size → F b) : IsFile ts w F v X (lastS ls) := by
  refine ⟨by unfold lastS; rw [List.length_map]; exact own_base (Nat.zero_le _) h.own, fun b e => hF b (h.own.lt b e).1 (h.own.lt b e).2, fun i s e => ?_⟩
  unfold lastS at e
  rw [List.getElem?_map] at e
  cases hl : ls[i]? with
  | none => rw [hl] at e; cases e
  | some l =>
    rw [hl] at e
    injection e with e
    subst e
    obtain ⟨u, e1, e2, e3⟩ := h.at_ i l hl
    exact ⟨u, _, e1, e2, e3.mono fun b z _ => hF b z.1 z.2, IsWaits.nil _ _⟩
end
/-- what sectors tells -/
def SecPost (ls : List (List Nat)) (w : World) (e : Ending) (w' : World) : Prop := (∃ v X, (e = .returned (.tuple #[v, .bool true]) ∧ okL ls ∧ RowS 83 w' w.heap.size v X ls) ∨ (e = .returned (.tuple #[v, .bool false]) ∧ ¬ okL ls)) ∧ Below w.heap.size w w'
set_option maxHeartbeats 4000000 in
theorem rsectors_any (A : Option Addr) (c : Nat) (L : List Value) (ls : List (List Nat)) (B : Nat) (w : World) (h1 : At w B A L) (hr : Reads w B L ls) (hB : B ≤ w.heap.size) (hn : ls.length ≤ 4096) :
    Calls Try.prog 50 #[.slice A ls.length c] w (SecPost ls w) := by
  obtain ⟨is, his, hzs, hss, hbs⟩ := info_parts rsector_info
  have t1 : decide ((4096 : Int) < (ls.length : Int)) = false := by rw [decide_eq_false_iff_not]; omega
  go_enter Try.func50, Try.ntmps50
  go_wp2_with fail
  go_loopw [4, 5] (fun v i wr => ∃ (k : Nat) (X : List Value), k ≤ ls.length ∧ i = .int .i64 k ∧ okL (ls.take k) ∧ RowS 83 wr w.heap.size v X (ls.take k) ∧ Below w.heap.size w wr) (fun _ i _ => ls.length - (intOf i).toNat)
  case atStart => exact ⟨0, [], Nat.zero_le _, rfl, (fun l h => by simp at h), by rw [List.take_zero]; exact RowS.nil _ _ _, Below.refl _ _⟩
  case round =>
    obtain ⟨k, X, hk, rfl, hok, hrow, hb⟩ := hrel
    have hwr := hb.size
    have hown := hrow.own
    have htl : (ls.take k).length = k := by rw [List.length_take]; omega
    rw [htl] at hown
    obtain ⟨A0, c0, rfl, -, -⟩ := own_form hown
    rcases Nat.lt_or_ge k ls.length with hlt | hge
    · have e1 : decide ((k : Int) < (ls.length : Int)) = true := by rw [decide_eq_true_iff]; omega
      have e2 : (0 : Int) ≤ (k : Int) := by omega
      have e3 : (k : Int) < (ls.length : Int) := by omega
      obtain ⟨A1, c1, ev, -, b1⟩ := hr.2 k _ (List.getElem?_eq_getElem hlt)
      obtain ⟨b, o, rfl, hbB, q1⟩ := (h1.below (hb.mono hB)) k (by rw [hr.1]; exact hlt)
      rw [← List.getElem?_eq_getElem, ev] at q1
      have htk : ls.take (k + 1) = ls.take k ++ [ls[k]] := List.take_succ_eq_append_getElem hlt
      have hmem := List.getElem_mem hlt
      have b2 := b1.below (hb.mono hB)
      generalize ls[k] = x at *
      by_cases hx : x.length = 128
      · have hne : ((x.length : Int) != 128) = false := by rw [hx]; rfl
        have hcl := rlent_any A1 c1 x B wr b2 (by omega)
        have HTK := Lib.hid htk
        have hok' : okL (ls.take (k + 1)) := by
          rw [htk]
          intro l hl
          rcases List.mem_append.1 hl with z | z
          · exact hok l z
          · rw [List.mem_singleton.1 z]; exact hx
        have HX := Lib.hid hx
        have HOK := Lib.hid hok'
        have HTL := Lib.hid htl
        clear htk hr h1 ev b1 b2 hok hok' htl
        rw [hx] at q1 hcl
        clear hx hne
        have hne : ((128 : Int) != 128) = false := rfl
        go_wp2_with fail
        refine hcl.mono ?_
        rintro e w2 ⟨A2, c2, rfl, ho2, hb2, hs2⟩
        rw [HX.out] at ho2 ⊢
        have hw2 := hb2.size
        have a0 := (Below.refl w2.heap.size w2).alloc (Nat.le_refl _) (.cells #[.slice A2 128 c2, .slice none 0 0] 83)
        have hba := hb2.trans (a0.mono hw2)
        have hrow2 := hrow.below hba
        have hown2 := kept_below hba hown
        have ho2a := kept_below a0 ho2
        have nxt : ∀ (A5 : Option Addr) (c5 : Nat) (w5 : World), w5.ownsRow w.heap.size 83 2 (.slice A5 (k + 1) c5) (k + 1) (X ++ [.slice A2 128 c2, .slice none 0 0]) → (w2.alloc (.cells #[.slice A2 128 c2, .slice none 0 0] 83)).grownBy w5 (Value.slice A0 k c0).ownBlock →
            RowS 83 w5 w.heap.size (.slice A5 (k + 1) c5) (X ++ [.slice A2 128 c2, .slice none 0 0]) (ls.take (k + 1)) ∧ Below w.heap.size w w5 := fun A5 c5 w5 h5 g5 => by
          rw [HTK.out]
          have hbw := (hb.trans (hba.mono hwr)).grown g5 (Nat.le_trans hwr hba.size) (fun b e => (hown.lt b e).1)
          refine ⟨hrow2.snoc (by decide) (by rw [HTL.out]; exact h5) g5 ?_, hbw⟩
          have hO : Only (fun b => (Value.slice A0 k c0).ownBlock = some b) (w2.alloc (.cells #[.slice A2 128 c2, .slice none 0 0] 83)) w5 := Only.of_grown g5 fun b e => .inl e
          have t0 := Txt.own ho2a HX.out hs2 (F := fun b => wr.heap.size ≤ b ∧ b < (w2.alloc (.cells #[.slice A2 128 c2, .slice none 0 0] 83)).heap.size) fun b e => ho2a.lt b e
          exact (t0.only hO fun b _ hz e' => absurd ((own_ty hown2 e').uniq hz) (by decide)).mono fun b z _ => ⟨Nat.le_trans hwr z.1, Nat.lt_of_lt_of_le z.2 hO.size⟩
        have NXT := Lib.hid nxt
        have HO := Lib.hid hown2
        clear nxt hcl ho2 ho2a hrow hrow2 hown hown2 hba a0
        go_wp2_with (at_builtin; refine wpList_append_row rfl _ _ 78 rfl w.heap.size 83 is _ 2 48 Try.underlying78 his hzs hss hbs rfl (by decide) (.slice A0 k c0) k X rfl HO.out ⟨w2.heap.size, 0, none⟩ 1 1 [.slice A2 128 c2, .slice none 0 0] rfl rfl (new_cells w2 _ _ (0, 0)) (by simp [Value.oneCell']) (by unfold maxLen; omega) (by omega) (by rw [World.size_alloc]; omega) ?_; intro A5 c5 w5 ho5 hg5 hat5; have H5 := Lib.hid (NXT.out A5 c5 w5 ho5 hg5); clear ho5 hg5 hat5)
        go_roundw
        case rel => exact ⟨k + 1, _, by omega, by go_num, HOK.out, H5.out.1, H5.out.2⟩
        case measure => simp [intOf]; omega
      · have hne : ((x.length : Int) != 128) = true := by rw [bne_iff_ne]; omega
        have hfin : SecPost ls w (.returned (.tuple #[.slice A0 k c0, .bool false])) wr := ⟨⟨_, [], .inr ⟨rfl, fun h => hx (h x hmem)⟩⟩, hb⟩
        have HF := Lib.hid hfin
        clear hfin hr h1 ev b1 b2 hok hrow hown htk hx
        go_wp2
        go_ret2
        exact HF.out
    · obtain rfl : k = ls.length := by omega
      have e1 : decide ((ls.length : Int) < (ls.length : Int)) = false := by rw [decide_eq_false_iff_not]; omega
      rw [List.take_length] at hok hrow
      have hfin : SecPost ls w (.returned (.tuple #[.slice A0 ls.length c0, .bool true])) wr := ⟨⟨_, X, .inl ⟨rfl, hok, hrow⟩⟩, hb⟩
      have HF := Lib.hid hfin
      clear hfin hr h1 hok hrow hown
      go_wp2
      go_ret2
      exact HF.out
def ROpenPost (la lb : List (List Nat)) (w : World) (e : Ending) (w' : World) : Prop :=
  (okL la ∧ okL lb → ∃ p, e = .returned p ∧ IsRDev (openP la lb) w' (newB w w') p) ∧ (¬ (okL la ∧ okL lb) → e = .returned (.pointer none)) ∧ Below w.heap.size w w'
set_option maxHeartbeats 4000000 in
theorem ropen_any (A A' : Option Addr) (c c' : Nat) (L L' : List Value) (la lb : List (List Nat)) (B : Nat) (w : World) (h1 : At w B A L) (hr1 : Reads w B L la) (h2 : At w B A' L') (hr2 : Reads w B L' lb) (hB : B ≤ w.heap.size) (hn : la.length ≤ 4096) (hn2 : lb.length ≤ 4096) :
    Calls Try.prog 31 #[.slice A la.length c, .slice A' lb.length c'] w (ROpenPost la lb w) := by
  have c1 := rsectors_any A c L la B w h1 hr1 hB hn
  go_enter Try.func31, Try.ntmps31
  go_wp2_with fail
  refine c1.mono ?_
  rintro e w1 ⟨⟨v, X, hv⟩, b1⟩
  have c2 := rsectors_any A' c' L' lb B w1 (h2.below (b1.mono hB)) (hr2.below (b1.mono hB)) (Nat.le_trans hB b1.size) hn2
  clear c1 h1 hr1 h2 hr2
  have NO : ∀ w', ¬ (okL la ∧ okL lb) → Below w.heap.size w w' → ROpenPost la lb w (.returned (.pointer none)) w' := fun w' h hb => ⟨fun z => absurd z h, fun _ => rfl, hb⟩
  have hw1 := b1.size
  rcases hv with ⟨rfl, hok, hrow⟩ | ⟨rfl, hno⟩
  · go_wp2_with fail
    refine c2.mono ?_
    rintro e w2 ⟨⟨v2, X2, hv⟩, b2⟩
    clear c2
    have hb2 := b1.trans (b2.mono hw1)
    have hw2 := b2.size
    rcases hv with ⟨rfl, hok2, hrow2⟩ | ⟨rfl, hno⟩
    · have hrw := hrow.below b2
      have k0 := Blk.new w2 81 #[.slice none 0 0, .slice none 0 0, .bool false, .int .i64 0, .bool false]
      have a0 := (Below.refl w2.heap.size w2).alloc (Nat.le_refl _) (.cells #[.slice none 0 0, .slice none 0 0, .bool false, .int .i64 0, .bool false] 81)
      have hra := hrw.below a0
      have hra2 := hrow2.below a0
      obtain ⟨A3, c3, rfl, -, -⟩ := own_form hrow.own
      obtain ⟨A4, c4, rfl, -, -⟩ := own_form hrow2.own
      generalize hwa : w2.alloc (.cells #[.slice none 0 0, .slice none 0 0, .bool false, .int .i64 0, .bool false] 81) = wa at *
      have hsa : wa.heap.size = w2.heap.size + 1 := by rw [← hwa]; simp
      have k2 := (k0.set_ 0 (.slice A3 la.length c3)).set_ 1 (.slice A4 lb.length c4)
      simp only [List.setIfInBounds_toArray, List.set_cons_succ, List.set_cons_zero] at k2
      have hO : Only (fun b => b = w2.heap.size) wa ((wa.setCell ⟨w2.heap.size, 0, none⟩ (.slice A3 la.length c3)).setCell ⟨w2.heap.size, 1, none⟩ (.slice A4 lb.length c4)) := ((Only.refl (fun b => b = w2.heap.size) wa).setCell (p := ⟨w2.heap.size, 0, none⟩) (.inl rfl) _).setCell (p := ⟨w2.heap.size, 1, none⟩) (.inl rfl) _
      have hsz : ((wa.setCell ⟨w2.heap.size, 0, none⟩ (.slice A3 la.length c3)).setCell ⟨w2.heap.size, 1, none⟩ (.slice A4 lb.length c4)).heap.size = wa.heap.size := by simp [World.setCell]
      have hfar : Far wa 83 (fun b => b = w2.heap.size) := fun b q _ => by
        subst q
        exact ⟨_, k0.ty, by decide, by decide, by decide⟩
      have hfa : FilesAt 83 (openP la lb).f wa (newB w wa) (fun m => if m = 0 then .slice A3 la.length c3 else .slice A4 lb.length c4) (fun m => if m = 0 then X else X2) := by
        refine ⟨fun n hn => ?_, ?_, fun f i g j u v hf hg _ hu hv => ?_⟩
        · rcases (show n = 0 ∨ n = 1 from by omega) with rfl | rfl
          · exact hra.file fun b z1 z2 => ⟨z1, z2⟩
          · exact hra2.file fun b z1 z2 => ⟨Nat.le_trans hw1 z1, z2⟩
        · show (Value.slice A3 la.length c3).ownBlock = none ∨ (Value.slice A3 la.length c3).ownBlock ≠ (Value.slice A4 lb.length c4).ownBlock
          cases e1 : (Value.slice A3 la.length c3).ownBlock with
          | none => exact .inl rfl
          | some b =>
            right
            intro e2
            have q1 := (hrow.own.lt b e1).2
            have q2 := (hrow2.own.lt b e2.symm).1
            omega
        · left
          rcases (show f = 0 ∨ f = 1 from by omega) with rfl | rfl
          · rw [hra.odd hu]; rfl
          · rw [hra2.odd hu]; rfl
      have hdev : IsRDev (openP la lb) ((wa.setCell ⟨w2.heap.size, 0, none⟩ (.slice A3 la.length c3)).setCell ⟨w2.heap.size, 1, none⟩ (.slice A4 lb.length c4)) (newB w ((wa.setCell ⟨w2.heap.size, 0, none⟩ (.slice A3 la.length c3)).setCell ⟨w2.heap.size, 1, none⟩ (.slice A4 lb.length c4))) (.pointer (some ⟨w2.heap.size, 0, none⟩)) := by
        refine ⟨w2.heap.size, _, 0, _, rfl, ⟨(hfa.far hO hfar).mono fun b z => ⟨z.1, by rw [hsz]; exact z.2⟩, k2, ⟨hb2.size, by rw [hsz]; omega⟩, fun n e => by cases e⟩⟩
      have hfin : ROpenPost la lb w (.returned (.pointer (some ⟨w2.heap.size, 0, none⟩))) ((wa.setCell ⟨w2.heap.size, 0, none⟩ (.slice A3 la.length c3)).setCell ⟨w2.heap.size, 1, none⟩ (.slice A4 lb.length c4)) :=
        ⟨fun _ => ⟨_, rfl, hdev⟩, fun z => absurd ⟨hok, hok2⟩ z, ((hb2.trans (a0.mono hb2.size)).setCell (p := ⟨w2.heap.size, 0, none⟩) (by exact hb2.size) _).setCell (p := ⟨w2.heap.size, 1, none⟩) (by exact hb2.size) _⟩
      have HF := Lib.hid hfin
      have g0 := k0.frozen 0
      have g1 := k0.frozen 1
      have y0 := k0.cell 0
      have y1 := k0.cell 1
      clear hfin hdev hfa hfar hO k2 hra hra2 hrow hrow2 hrw NO hok hok2 k0
      go_wp2
      go_ret
      exact HF.out
    · have HN := Lib.hid (NO w2 (fun z => hno z.2) hb2)
      clear NO hno hrow hok
      go_wp2
      go_ret
      exact HN.out
  · go_wp2_with fail
    refine c2.mono ?_
    rintro e w2 ⟨⟨v2, X2, hv⟩, b2⟩
    have HN := Lib.hid (NO w2 (fun z => hno z.1) (b1.trans (b2.mono hw1)))
    clear c2 NO hno b1 b2
    rcases hv with ⟨rfl, -, -⟩ | ⟨rfl, -⟩
    all_goals
      go_wp2
      go_ret
      exact HN.out
end Go.Proofs.Ytnbbneldbagohaa
