/- The contract of known. No conditions. -/
import Derived.Test.YtkmfacmigonbcaaSealMath
namespace Go.Proofs.Ytkmfacmigonbcaa
open Go.ChangeShapes Go.WideShapes Go.ChangeAt Go.RowKit
set_option linter.unusedVariables false
set_option linter.unusedSimpArgs false
set_option maxRecDepth 20000

theorem zrow_length (p : Bool) : (zrow p).length = 128 := by cases p <;> simp [zrow]
theorem zrow_small (p : Bool) : Small (zrow p) := fun x hx => by
  unfold zrow at hx
  rcases List.mem_append.1 hx with h | h
  · rw [(List.mem_replicate.1 h).2]; omega
  · rw [List.mem_singleton.1 h]; cases p <;> decide
theorem torn_row {w : World} {base g : Nat} {v : Value} (h : RowIs w base v (zrow false)) : ∃ p, RowIs (w.setCell ⟨g, 127, none⟩ (.int .u8 1)) base v (zrow p) ∧ (v.ownBlock = some g → p = true) := by
  obtain ⟨⟨A, c, rfl⟩, ho, hs⟩ := h
  rw [zrow_length] at ho ⊢
  obtain ⟨g', rfl, hg, hg'⟩ := own_pos ho (by omega)
  by_cases e : g' = g
  · subst e
    refine ⟨true, ⟨⟨_, c, by rw [zrow_length]⟩, ?_, zrow_small _⟩, fun _ => rfl⟩
    rw [zrow_length]
    have := (ho.stored 127 (byteV 1)).1
    rw [← List.map_set, zrow_set] at this
    exact this
  · refine ⟨false, ⟨⟨_, c, by rw [zrow_length]⟩, ?_, zrow_small _⟩, fun q => absurd (by simpa [Value.ownBlock] using q) e⟩
    rw [zrow_length]
    exact ownsRow_setCell_other ho (a := ⟨g, 127, none⟩) (by simpa [Value.ownBlock] using e) _
theorem torn_rows {w : World} {base g c : Nat} {L : List Value} (hr : Rows w base L [zrow false, zrow false, zrow false, zrow false]) (h3 : L[3]? = some (.slice (some ⟨g, 0, none⟩) 128 c)) :
    ∃ p q r, Rows (w.setCell ⟨g, 127, none⟩ (.int .u8 1)) base L [zrow p, zrow q, zrow r, zrow true] := by
  obtain ⟨h4, hr⟩ := hr
  match L, h4 with
  | [a, b, c', d], _ =>
    obtain ⟨p, hp, _⟩ := torn_row (g := g) (hr 0 a _ rfl rfl)
    obtain ⟨q, hq, _⟩ := torn_row (g := g) (hr 1 b _ rfl rfl)
    obtain ⟨r, hr', _⟩ := torn_row (g := g) (hr 2 c' _ rfl rfl)
    obtain ⟨s, hs, es⟩ := torn_row (g := g) (hr 3 d _ rfl rfl)
    have ed : d = .slice (some ⟨g, 0, none⟩) 128 c := by simpa using h3
    have := es (by rw [ed]; simp [Value.ownBlock])
    subst this
    refine ⟨p, q, r, rfl, fun j v l hv hl => ?_⟩
    match j, hv, hl with
    | 0, hv, hl => cases hv; cases hl; exact hp
    | 1, hv, hl => cases hv; cases hl; exact hq
    | 2, hv, hl => cases hv; cases hl; exact hr'
    | 3, hv, hl => cases hv; cases hl; exact hs
set_option maxHeartbeats 4000000 in
theorem known_any (w : World) : Calls Try.prog 7 #[] w fun e w' => e = .returned (.bool true) ∧ Below w.heap.size w w' := by
  obtain ⟨i0, hi0, hz0, hz1, hz2⟩ := info_parts u8_info
  go_enter Try.func7, Try.ntmps7
  go_wp2_with (at_make; refine wpList_make_full _ rfl _ _ 22 rfl w.heap.size 5 i0 _ 1 Try.underlying22 hi0 hz0 hz1 .i64 .i64 _ _ 448 rfl rfl rfl rfl (by rw [hz2]; omega) (by unfold maxLen; omega) (Nat.le_refl _) ?_; intro w1 hown1 hg1)
  have hb1 : Below w.heap.size w w1 := (Below.refl _ _).grown hg1 (Nat.le_refl _) (by simp)
  have hrow : Bytes w1 w1.heap.size (some ⟨w.heap.size, 0, none⟩) (List.replicate 448 0) := by
    have e : (madeCells (Value.int .u8 0).cells (448 * 1)).toList = (List.replicate 448 0).map byteV := by
      rw [Nat.mul_one, List.map_replicate]
      exact toList_madeCells_one _ 448
    rw [e] at hown1
    exact own_bytes hown1 (fun x hx => by rw [(List.mem_replicate.1 hx).2]; omega)
  have hl448 : (List.replicate 448 0).length = 448 := List.length_replicate ..
  have hseal := Seal_any (some ⟨w.heap.size, 0, none⟩) (List.replicate 448 0) 448 (by rw [hl448]; omega) 0 (by omega) w1 hrow
  have hso := seal_open hl448 (show 0 < 18446744073709551616 by omega)
  rw [seal_zero] at hseal hso
  rw [hl448] at hseal
  clear hown1 hg1 hrow
  refine hseal.mono ?_
  clear hseal
  intro e w2 hret
  obtain ⟨A, c, L, rfl, hown, hr, hb2, hat, hrd⟩ := hret.is
  have hls : ∀ l ∈ [zrow false, zrow false, zrow false, zrow false], l.length ≤ 200 := by
    intro l hl
    simp only [List.mem_cons, List.not_mem_nil, or_false] at hl
    rcases hl with rfl | rfl | rfl | rfl <;> rw [zrow_length] <;> omega
  have hopen := open_any A c L _ _ w2 hat hrd (Nat.le_refl _) hls
  obtain ⟨b, o, A3, c3, rfl, hbB, q3, hc3, r3⟩ := reads_at hat hrd (k := 3) (by simp)
  have e3 : L[3]? = some (.slice A3 128 c3) := by
    obtain ⟨x, y, e, _⟩ := hrd.2 3 (zrow false) rfl
    obtain ⟨b', o', e', _, q⟩ := hat 3 (by rw [hrd.1]; simp)
    injection e' with e'
    injection e' with e1 e2
    subst e1
    subst e2
    have hlt : 3 < L.length := by rw [hrd.1]; simp
    rw [List.getElem?_eq_getElem hlt]
    rw [q3] at q
    simp only [List.getElem_cons_succ, List.getElem_cons_zero, zrow_length] at q
    exact q.symm
  have h3 := (hr.2 3 _ (zrow false) e3 rfl).2.1
  rw [zrow_length] at h3
  obtain ⟨g, rfl, hg, hg'⟩ := own_pos h3 (by omega)
  simp only [List.getElem_cons_succ, List.getElem_cons_zero, zrow_length] at q3 hc3 r3
  obtain ⟨g2, o2, eg, _, qc, _⟩ := r3.at_ (k := 127) (by rw [zrow_length]; omega)
  injection eg with eg
  injection eg with eg1 eg2
  subst eg1
  subst eg2
  have hfr := h3.frozenAt 127
  have hbw := hb1.trans (hb2.mono hb1.size)
  obtain ⟨hk1, hk2, hk3, -⟩ := hso
  have hhs1 := hb1.size
  have hhs2 := hb2.size
  clear hret hb1 hb2 r3
  rw [Nat.zero_add] at qc
  simp only [List.length_cons, List.length_nil, Nat.zero_add, Nat.reduceAdd] at hopen ⊢
  go_wp2_with fail
  refine hopen.mono ?_
  clear hopen
  rintro e w3 ⟨A5, c5, rfl, -, hb3, -, -⟩
  rw [hk1, hk2, hk3, hl448]
  have hr3 := hr.grown (below_none hb3)
  obtain ⟨p, q, r, hr4⟩ := torn_rows hr3 e3
  have hown3 := kept_none (below_none hb3) hown
  have h33 := kept_none (below_none hb3) h3
  have hap := own_apart (by decide) hown3 h33
  have hown4 := ownsRow_setCell_other hown3 (a := ⟨g, 127, none⟩) (by rcases hap with e | e; (rw [e]; exact fun q => by cases q); exact e) (.int .u8 1)
  have q3' := (hb3.cell (p := ⟨b, o + 3, none⟩) hbB).trans q3
  have qc' := (hb3.cell (p := ⟨g, 127, none⟩) hg').trans qc
  have hfr' := (kept_none (below_none hb3) h3).frozenAt 127
  have hbw4 : Below w.heap.size w (w3.setCell ⟨g, 127, none⟩ (.int .u8 1)) := (hbw.trans (hb3.mono (by omega))).setCell (by show w.heap.size ≤ g; omega) _
  have hat4 := At.own hown4
  have hrd4 := hr4.reads
  obtain ⟨hz1', hz2'⟩ := zrow_torn p q r
  have hls4 : ∀ l ∈ [zrow p, zrow q, zrow r, zrow true], l.length ≤ 200 := by
    intro l hl
    simp only [List.mem_cons, List.not_mem_nil, or_false] at hl
    rcases hl with rfl | rfl | rfl | rfl <;> rw [zrow_length] <;> omega
  have hopen4 := open_any (some ⟨b, o, none⟩) c L _ _ _ hat4 hrd4 (Nat.le_refl _) hls4
  have hgr4 := fun W (hW : Below (w3.setCell ⟨g, 127, none⟩ (.int .u8 1)).heap.size (w3.setCell ⟨g, 127, none⟩ (.int .u8 1)) W) => great_any (some ⟨b, o, none⟩) c L _ _ W (hat4.below hW) (hrd4.below hW) (by simp) hls4
  rw [hz2'] at hgr4
  have hs34 := hb3.size
  have hokf : openOk [zrow p, zrow q, zrow r, zrow true] = false := hz1'
  simp only [List.length_cons, List.length_nil, Nat.zero_add, Nat.reduceAdd] at hopen4 hgr4
  clear hr hrd hls hown hat e3 h3 q3 qc hfr hbw hl448 hk1 hk2 hk3 hb3 hr3 hr4 hown3 h33 hap hown4 hat4 hrd4 hls4 hz1' hz2'
  go_wp2_with fail
  generalize hW4 : w3.setCell ⟨g, 127, none⟩ (.int .u8 1) = W4 at *
  refine hopen4.mono ?_
  clear hopen4
  rintro e w5 ⟨A6, c6, rfl, -, hb5, -, -⟩
  rw [hokf]
  have hgr5 := hgr4 w5 hb5
  have hbw5 := hbw4.trans (hb5.mono hbw4.size)
  clear hgr4 hb5
  go_wp2_with fail
  refine hgr5.mono ?_
  clear hgr5
  rintro e w6 ⟨rfl, hd6⟩
  have hbw6 := hbw5.trans (hd6.below _)
  go_wp2
  go_ret
  exact ⟨rfl, hbw6⟩
end Go.Proofs.Ytkmfacmigonbcaa
