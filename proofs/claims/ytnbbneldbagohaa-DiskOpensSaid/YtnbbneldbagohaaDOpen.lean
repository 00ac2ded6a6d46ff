/- disk: Open. Conditions: what is handed in reads as bytes. -/
import Derived.Test.YtnbbneldbagohaaROpen
namespace Go.Proofs.Ytnbbneldbagohaa
open Go.ChangeShapes Go.WideShapes Go.ChangeAt Go.RowKit
set_option linter.unusedVariables false
set_option linter.unusedSimpArgs false
set_option maxRecDepth 20000

def selL (la lb : List (List Nat)) (n : Nat) : List (List Nat) := if n = 0 then la else lb
/-- the files below q, of file q the first k -/
def openF (la lb : List (List Nat)) (q k m : Nat) : List Sect := if m < q then lastS (selL la lb m) else if m = q then lastS ((selL la lb q).take k) else []
theorem openF_next (la lb : List (List Nat)) (q k : Nat) (hk : k < (selL la lb q).length) : appF (openF la lb q k) q ((selL la lb q)[k]) = openF la lb q (k + 1) := by
  funext m
  unfold appF openF
  by_cases e : m = q
  · subst e
    rw [if_pos rfl, if_neg (by omega), if_pos rfl, if_neg (by omega), if_pos rfl, lastS_next hk]
  · rw [if_neg e, if_neg e, if_neg e]
theorem openF_end (la lb : List (List Nat)) (q : Nat) : openF la lb q (selL la lb q).length = openF la lb (q + 1) 0 := by
  funext m
  unfold openF
  rw [List.take_length]
  by_cases e : m = q
  · subst e
    rw [if_neg (by omega), if_pos rfl, if_pos (by omega)]
  · by_cases h : m < q
    · rw [if_pos h, if_pos (by omega)]
    · rw [if_neg h, if_neg e, if_neg (by omega)]
      split
      · rw [List.take_zero]; rfl
      · rfl
theorem openF_len (la lb : List (List Nat)) (q k : Nat) (hk : k ≤ (selL la lb q).length) : (openF la lb q k q).length = k := by
  unfold openF
  rw [if_neg (by omega), if_pos rfl]
  unfold lastS
  rw [List.length_map, List.length_take]
  omega
/-- one sector more -/
theorem dopen_ready {f : Nat → List Sect} {q k : Nat} (hq : q < 2) (hk : (f q).length = k) {w wr : World} {s : Nat → Value} {X : Nat → List Value} (hd : DevAt ⟨f, none, false⟩ wr (newB w wr) w.heap.size s (.pointer none) X) (hb : Below w.heap.size w wr) :
    ∃ A c, wr.cell? ⟨w.heap.size, q, none⟩ = some (.slice A k c) ∧
      ∀ (wc : World) (Ac : Option Addr) (cc : Nat) (l : List Nat), Below wr.heap.size wr wc → wc.ownsRow wr.heap.size 5 1 (.slice Ac 128 cc) 128 (l.map byteV) → l.length = 128 → Small l →
        (wc.alloc (.cells #[.slice Ac 128 cc, .slice none 0 0] 70)).ownsRow 0 70 2 (.slice A k c) k (X q) ∧
        ∀ (w5 : World) (A' : Option Addr) (c' : Nat), w5.ownsRow 0 70 2 (.slice A' (k + 1) c') (k + 1) (X q ++ [.slice Ac 128 cc, .slice none 0 0]) →
          (wc.alloc (.cells #[.slice Ac 128 cc, .slice none 0 0] 70)).grownBy w5 (Value.slice A k c).ownBlock →
          ((Value.slice A' (k + 1) c').ownBlock = (Value.slice A k c).ownBlock ∨ (Value.slice A' (k + 1) c').ownBlock = some (wc.alloc (.cells #[.slice Ac 128 cc, .slice none 0 0] 70)).heap.size) →
          (∃ s' X', DevAt ⟨appF f q l, none, false⟩ (w5.setCell ⟨w.heap.size, q, none⟩ (.slice A' (k + 1) c')) (newB w (w5.setCell ⟨w.heap.size, q, none⟩ (.slice A' (k + 1) c'))) w.heap.size s' (.pointer none) X') ∧
          Below w.heap.size w (w5.setCell ⟨w.heap.size, q, none⟩ (.slice A' (k + 1) c')) ∧ w5.frozen? ⟨w.heap.size, q, none⟩ = false ∧ ∃ v, w5.cell? ⟨w.heap.size, q, none⟩ = some v := by
  have hwr := hb.size
  have hrow := (hd.file q hq).1
  rw [show (DevP.f ⟨f, none, false⟩ q).length = k from hk] at hrow
  obtain ⟨A, c, es, -, -⟩ := own_form hrow
  have c0 : wr.cell? ⟨w.heap.size, q, none⟩ = some (s q) := by
    refine (hd.blk.cell q).trans ?_
    rcases (show q = 0 ∨ q = 1 from by omega) with rfl | rfl <;> rfl
  rw [es] at c0 hrow
  refine ⟨A, c, c0, fun wc Ac cc l hbc hoc h128 hs => ?_⟩
  have hwc := hbc.size
  have a0 := (Below.refl wc.heap.size wc).alloc (Nat.le_refl _) (.cells #[.slice Ac 128 cc, .slice none 0 0] 70)
  have hba := hbc.trans (a0.mono hwc)
  have hoa := kept_below a0 hoc
  refine ⟨kept_below hba hrow, fun w5 A' c' ho hg hat => ?_⟩
  subst hk
  rw [← es] at hg hat
  generalize hwa : wc.alloc (.cells #[.slice Ac 128 cc, .slice none 0 0] 70) = wa at *
  have hsa : wa.heap.size = wc.heap.size + 1 := by rw [← hwa]; simp
  have hs5 := hg.size
  have hda := hd.grown (F' := newB w wr) hba fun b z => z
  have hbst : ∀ v, (w5.setCell ⟨w.heap.size, q, none⟩ v).heap.size = w5.heap.size := fun v => by simp [World.setCell]
  have hO : Only (fun b => (s q).ownBlock = some b) wa w5 := Only.of_grown hg fun b e => .inl e
  have hna : ∀ b, U8 wa b → ¬ (s q).ownBlock = some b := fun b z e => absurd ((own_ty (hda.file q hq).1 e).uniq z) (by decide)
  have htx : Txt w5 (newB w w5) (.slice Ac 128 cc) l := by
    have t0 : Txt wa (fun b => wr.heap.size ≤ b ∧ b < wa.heap.size) (.slice Ac 128 cc) l := Txt.own hoa h128 hs fun b e => hoa.lt b e
    refine (t0.only hO fun b _ z => hna b z).mono fun b e _ => ?_
    exact ⟨Nat.le_trans hwr e.1, by have := e.2; omega⟩
  have hgrow := DevAt.growF (F' := newB w w5) hda hq ho hg hat htx (fun b z => ⟨z.1, by have := z.2; omega⟩) (fun z => ⟨by omega, (ho.lt _ z).2⟩)
  have hbk := hda.blk.only hO (fun z => absurd (hda.blk.ty.uniq (own_ty (hda.file q hq).1 z)) (by decide))
  refine ⟨⟨_, _, by unfold newB at *; rw [hbst]; exact hgrow⟩, ?_, hbk.frozen q, ?_⟩
  · have hb5 : Below w.heap.size w w5 := (hb.trans (hba.mono hwr)).grown hg (by omega) (fun k e => (hda.file q hq).2.1 k e |>.1)
    exact hb5.setCell (p := ⟨w.heap.size, q, none⟩) (by exact Nat.le_refl _) _
  · rcases (show q = 0 ∨ q = 1 from by omega) with rfl | rfl
    · exact ⟨_, hbk.cell 0⟩
    · exact ⟨_, hbk.cell 1⟩
def DOpenPost (la lb : List (List Nat)) (w : World) (e : Ending) (w' : World) : Prop :=
  (okL la ∧ okL lb → ∃ p, e = .returned p ∧ IsDev (openP la lb) w' (newB w w') p) ∧ (¬ (okL la ∧ okL lb) → e = .returned (.pointer none)) ∧ Below w.heap.size w w'
theorem idx_run2 (u v : Value) (q : Nat) (hq : q < 2) (W : World) : (Instr.index 87 (.agg #[u, v]) (.int .i64 (q : Int))).run Try.prog W = .ok (if q = 0 then u else v) W := by
  rcases (show q = 0 ∨ q = 1 from by omega) with rfl | rfl
  · rfl
  · rfl
set_option maxHeartbeats 8000000 in
theorem dopen_any (A A' : Option Addr) (c c' : Nat) (L L' : List Value) (la lb : List (List Nat)) (B : Nat) (w : World) (h1 : At w B A L) (hr1 : Reads w B L la) (h2 : At w B A' L') (hr2 : Reads w B L' lb) (hB : B ≤ w.heap.size) (hn : la.length ≤ 4096) (hn2 : lb.length ≤ 4096) :
    Calls Try.prog 30 #[.slice A la.length c, .slice A' lb.length c'] w (DOpenPost la lb w) := by
  obtain ⟨is, his, hzs, hss, hbs⟩ := info_parts sector_info
  have hsel : ∀ q, q < 2 → ∃ Aq cq Lq, (if q = 0 then Value.slice A la.length c else .slice A' lb.length c') = .slice Aq (selL la lb q).length cq ∧ At w B Aq Lq ∧ Reads w B Lq (selL la lb q) ∧ (selL la lb q).length ≤ 4096 := fun q hq => by
    rcases (show q = 0 ∨ q = 1 from by omega) with rfl | rfl
    · exact ⟨A, c, L, rfl, h1, hr1, hn⟩
    · exact ⟨A', c', L', rfl, h2, hr2, hn2⟩
  have HSEL := Lib.hid hsel
  have HIDX := Lib.hid (idx_run2 (.slice A la.length c) (.slice A' lb.length c'))
  clear hsel h1 hr1 h2 hr2
  have hno : ∀ q, q < 2 → ¬ okL (selL la lb q) → ¬ (okL la ∧ okL lb) := fun q hq h z => by
    rcases (show q = 0 ∨ q = 1 from by omega) with rfl | rfl
    · exact h z.1
    · exact h z.2
  have HNO := Lib.hid hno
  clear hno
  have hst : DevAt ⟨openF la lb 0 0, none, false⟩ (w.alloc (.cells #[.slice none 0 0, .slice none 0 0, .pointer none, .bool false] 67)) (newB w (w.alloc (.cells #[.slice none 0 0, .slice none 0 0, .pointer none, .bool false] 67))) w.heap.size (fun _ => .slice none 0 0) (.pointer none) (fun _ => []) := by
    have hz : ∀ n, openF la lb 0 0 n = [] := fun n => by
      unfold openF
      rw [if_neg (by omega)]
      split
      · rw [List.take_zero]; rfl
      · rfl
    refine ⟨⟨fun n hn => ⟨?_, (fun b e => by cases e), fun i s e => ?_⟩, .inl rfl, fun f i g j u v _ _ _ hu => by cases hu⟩, Blk.new _ _ _, ⟨Nat.le_refl _, by simp⟩, rfl⟩
    · show World.ownsRow _ _ _ _ _ (openF la lb 0 0 n).length _
      rw [hz n]
      exact World.ownsRow_nil _ _ _ _
    · have e' : (openF la lb 0 0 n)[i]? = some s := e
      rw [hz n] at e'
      cases e'
  have hbst : Below w.heap.size w (w.alloc (.cells #[.slice none 0 0, .slice none 0 0, .pointer none, .bool false] 67)) := (Below.refl _ _).alloc (Nat.le_refl _) _
  go_enter Try.func30, Try.ntmps30
  go_wp2_with fail
  go_loopw [15, 6, 7, 9] (fun i _ _ _ wr => ∃ q : Nat, q ≤ 2 ∧ i = .int .i64 q ∧ (∀ m, m < q → okL (selL la lb m)) ∧ (∃ s X, DevAt ⟨openF la lb q 0, none, false⟩ wr (newB w wr) w.heap.size s (.pointer none) X) ∧ Below w.heap.size w wr) (fun i _ _ _ _ => 2 - (intOf i).toNat)
  case atStart => exact ⟨0, by omega, rfl, (fun m h => absurd h (by omega)), ⟨_, _, hst⟩, hbst⟩
  case round =>
    clear hst hbst
    obtain ⟨q, hq, rfl, hokq, ⟨s, X, hd⟩, hb⟩ := hrel
    rcases Nat.lt_or_ge q 2 with hlt | hge
    · have e1 : decide ((q : Int) < 2) = true := by rw [decide_eq_true_iff]; omega
      have e2 : (0 : Int) ≤ (q : Int) := by omega
      have e3 : (q : Int) < 2 := by omega
      have hi := HIDX.out q hlt
      obtain ⟨Aq, cq, Lq, hse, hAt, hRd, hle⟩ := HSEL.out q hlt
      rw [hse] at hi
      have hend := openF_end la lb q
      have hnxt := openF_next la lb q
      have hlen := openF_len la lb q
      have hnoq := HNO.out q hlt
      have HQ := Lib.hid (And.intro hend (And.intro hnxt (And.intro hlen (And.intro hnoq hokq))))
      clear hse hend hnxt hlen hnoq hokq
      obtain ⟨ls, hls⟩ : ∃ ls, selL la lb q = ls := ⟨_, rfl⟩
      have t1 : decide ((4096 : Int) < (ls.length : Int)) = false := by rw [decide_eq_false_iff_not, ← hls]; omega
      rw [hls] at hi hRd hle HQ
      have HLS := Lib.hid hls
      clear hls
      go_wp2_with fail
      go_loopw [24, 9] (fun i _ wr => ∃ k : Nat, k ≤ ls.length ∧ i = .int .i64 k ∧ okL (ls.take k) ∧ (∃ s X, DevAt ⟨openF la lb q k, none, false⟩ wr (newB w wr) w.heap.size s (.pointer none) X) ∧ Below w.heap.size w wr) (fun i _ _ => ls.length - (intOf i).toNat)
      case atStart => exact ⟨0, Nat.zero_le _, rfl, (fun l h => by simp at h), ⟨_, _, hd⟩, hb⟩
      case round =>
        clear hd hb
        obtain ⟨k, hk, rfl, hok, ⟨s, X, hd⟩, hb⟩ := hrel
        have hwr := hb.size
        rcases Nat.lt_or_ge k ls.length with hlt2 | hge2
        · have e4 : decide ((k : Int) < (ls.length : Int)) = true := by rw [decide_eq_true_iff]; omega
          have e5 : (0 : Int) ≤ (k : Int) := by omega
          have e6 : (k : Int) < (ls.length : Int) := by omega
          obtain ⟨A1, c1, ev, -, b1⟩ := hRd.2 k _ (List.getElem?_eq_getElem hlt2)
          obtain ⟨b, o, rfl, hbB, q1⟩ := (hAt.below (hb.mono hB)) k (by rw [hRd.1]; exact hlt2)
          rw [← List.getElem?_eq_getElem, ev] at q1
          have htk : ls.take (k + 1) = ls.take k ++ [ls[k]] := List.take_succ_eq_append_getElem hlt2
          have hmem := List.getElem_mem hlt2
          have hap : appF (openF la lb q k) q ls[k] = openF la lb q (k + 1) := by
            have := HQ.out.2.1 k hlt2
            exact this
          have b2 := b1.below (hb.mono hB)
          generalize ls[k] = x at *
          by_cases hx : x.length = 128
          · obtain ⟨Ag, cg, c0, hready⟩ := dopen_ready hlt (HQ.out.2.2.1 k hk) hd hb
            have hok' : okL (ls.take (k + 1)) := by
              rw [htk]
              intro l hl
              rcases List.mem_append.1 hl with z | z
              · exact hok l z
              · rw [List.mem_singleton.1 z]; exact hx
            have hcl : Calls Try.prog 34 #[.slice A1 128 c1] wr.drew (RetBytes 5 x wr.drew) := by
              have := clone_any A1 c1 x B wr.drew (b2.below ((Below.refl _ _).drew)) (Nat.le_trans hB hwr) (by omega)
              rw [hx] at this
              exact this
            have hready2 := fun wc Ac cc z1 z2 z3 => hready wc Ac cc x z1 z2 hx z3
            rw [hap] at hready2
            have HR := Lib.hid hready2
            clear hready2
            have HOK := Lib.hid hok'
            have HX := Lib.hid hx
            have hgpl := hd.blk.lt
            rw [hx] at q1
            clear hready hok' hd htk hap ev b1 b2 hok hx hi hAt hRd hmem
            have hne : ((128 : Int) != 128) = false := rfl
            go_wp2_with fail
            go_region_law
              (first
                | (go_simp; go_at_call 34; refine hcl.mono ?_; intro e wc hret; obtain ⟨Ac, cc, rfl, hc1, hb1, hs1⟩ := hret; rw [HX.out] at hc1 ⊢; have hbw : Below wr.heap.size wr wc := (below_drew0 wr).trans hb1; have hzc := hbw.size; have qc : wc.cell? ⟨w.heap.size, q, none⟩ = some (.slice Ag k cg) := (hbw.cell (p := ⟨w.heap.size, q, none⟩) hgpl).trans c0; have qa : ∀ o, (wc.alloc o).cell? ⟨w.heap.size, q, none⟩ = some (.slice Ag k cg) := fun o => (((Below.refl wc.heap.size wc).alloc (Nat.le_refl _) o).cell (p := ⟨w.heap.size, q, none⟩) (Nat.lt_of_lt_of_le hgpl hzc)).trans qc; have HRC := Lib.hid (HR.out wc Ac cc hbw hc1 hs1); clear hc1)
                | (refine step_append_row (by rfl) _ _ 62 (by rfl) 0 70 is _ 2 48 Try.underlying62 his hzs hss hbs rfl (by decide) (.slice Ag k cg) k (X q) (by rfl) HRC.out.1 ⟨wc.heap.size, 0, none⟩ 1 1 [.slice Ac 128 cc, .slice none 0 0] (by rfl) rfl (new_cells wc _ _ (0, 0)) (by simp [Value.oneCell']) (by unfold maxLen; omega) (by omega) (Nat.zero_le _) ?_; intro A5 c5 w5 ho5 hg5 hat5; have h5 := HRC.out.2 w5 A5 c5 ho5 hg5 hat5; have f5 := h5.2.2.1; obtain ⟨v5, cc5⟩ := h5.2.2.2; have H5 := Lib.hid h5; clear ho5 hg5 hat5 h5)
                | fail)
            all_goals
              go_wp2
              go_roundw
              case rel => exact ⟨k + 1, by omega, by go_num, HOK.out, H5.out.1, H5.out.2.1⟩
              case measure => simp [intOf]; omega
          · have hne : ((x.length : Int) != 128) = true := by rw [bne_iff_ne]; omega
            have hfin : DOpenPost la lb w (.returned (.pointer none)) wr := ⟨fun z => absurd z (HQ.out.2.2.2.1 fun h => hx (h x hmem)), fun _ => rfl, hb⟩
            have HF := Lib.hid hfin
            clear hfin hd hap htk ev b1 b2 hok hx hi hAt hRd hmem
            go_wp2
            go_ret
            exact HF.out
        · obtain rfl : k = ls.length := by omega
          have e4 : decide ((ls.length : Int) < (ls.length : Int)) = false := by rw [decide_eq_false_iff_not]; omega
          rw [List.take_length] at hok
          rw [HQ.out.1] at hd
          have hokn : ∀ m, m < q + 1 → okL (selL la lb m) := fun m hm => by
            rcases Nat.lt_or_ge m q with z | z
            · exact HQ.out.2.2.2.2 m z
            · obtain rfl : m = q := by omega
              rw [HLS.out]
              exact hok
          have HD := Lib.hid (And.intro hd (And.intro hb hokn))
          clear hd hb hok hokn hi hAt hRd
          go_wp2
          go_roundw
          case rel => exact ⟨q + 1, by omega, by go_num, HD.out.2.2, ⟨s, X, HD.out.1⟩, HD.out.2.1⟩
          case measure => simp [intOf]; omega
    · obtain rfl : q = 2 := by omega
      have hfin : DOpenPost la lb w (.returned (.pointer (some ⟨w.heap.size, 0, none⟩))) wr := by
        refine ⟨fun _ => ⟨_, rfl, ⟨w.heap.size, s, .pointer none, X, rfl, ?_⟩⟩, fun h => absurd ⟨hokq 0 (by omega), hokq 1 (by omega)⟩ h, hb⟩
        have e : ∀ n, n < 2 → openF la lb 2 0 n = (openP la lb).f n := fun n hn => by
          unfold openF
          rw [if_pos hn]
          rcases (show n = 0 ∨ n = 1 from by omega) with rfl | rfl <;> rfl
        refine ⟨⟨fun n hn => ?_, hd.rows, hd.apart⟩, hd.blk, hd.inF, hd.left⟩
        rw [← e n hn]
        exact hd.file n hn
      have HF := Lib.hid hfin
      clear hfin hd hokq HIDX HSEL HNO
      go_wp2
      go_ret
      exact HF.out
end Go.Proofs.Ytnbbneldbagohaa
