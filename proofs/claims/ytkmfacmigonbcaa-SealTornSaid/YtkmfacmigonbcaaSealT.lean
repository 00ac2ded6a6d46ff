/- The law SealTorn, walked. Conditions: none beyond what the row says. -/
import Derived.Test.YtkmfacmigonbcaaSealK
import Derived.Test.YtkmfacmigonbcaaSealP
import Derived.Test.YtkmfacmigonbcaaSealTm
import Derived.Test.YtkmfacmigonbcaaRef
import Derived.Test.YtkmfacmigonbcaaArgs
namespace Go.Proofs.Ytkmfacmigonbcaa
open Go.ChangeShapes Go.WideShapes Go.ChangeAt Go.RowKit
set_option linter.unusedVariables false
set_option linter.unusedSimpArgs false
set_option maxRecDepth 20000

/-- the two lists of sectors and the two pages, as they lie -/
structure Tw (w W : World) (gl cl gm cm : Nat) (L M : List Value) (ls ms : List (List Nat)) (A3 : Option Addr) (c3 : Nat) (X : List Nat) (A4 : Option Addr) (c4 : Nat) (Y : List Nat) : Prop where
  ol : W.ownsRow w.heap.size 22 1 (.slice (some ⟨gl, 0, none⟩) 4 cl) 4 L
  rl : Rows W w.heap.size L ls
  om : W.ownsRow w.heap.size 22 1 (.slice (some ⟨gm, 0, none⟩) 4 cm) 4 M
  rm : Rows W w.heap.size M ms
  b : Below w.heap.size w W
  ne : gl ≠ gm
  ox : RowIs W w.heap.size (.slice A3 X.length c3) X
  oy : RowIs W w.heap.size (.slice A4 Y.length c4) Y
variable {w W W' : World} {gl cl gm cm : Nat} {L M : List Value} {ls ms : List (List Nat)} {A3 A4 : Option Addr} {c3 c4 : Nat} {X Y : List Nat}
theorem RowIs.imp {w w' : World} {base : Nat} {v : Value} {l : List Nat} (h : RowIs w base v l) (f : w.ownsRow base 5 1 v l.length (l.map byteV) → w'.ownsRow base 5 1 v l.length (l.map byteV)) : RowIs w' base v l := ⟨h.1, f h.2.1, h.2.2⟩
theorem Tw.keep (h : Tw w W gl cl gm cm L M ls ms A3 c3 X A4 c4 Y) (hb : Below W.heap.size W W') : Tw w W' gl cl gm cm L M ls ms A3 c3 X A4 c4 Y where
  ol := kept_none (below_none hb) h.ol
  rl := h.rl.imp fun v l q => kept_none (below_none hb) q
  om := kept_none (below_none hb) h.om
  rm := h.rm.imp fun v l q => kept_none (below_none hb) q
  b := h.b.trans (hb.mono h.b.size)
  ne := h.ne
  ox := h.ox.imp fun q => kept_none (below_none hb) q
  oy := h.oy.imp fun q => kept_none (below_none hb) q
theorem Tw.set (h : Tw w W gl cl gm cm L M ls ms A3 c3 X A4 c4 Y) (i : Nat) {v : Value} {r : List Nat} (hv : RowIs W w.heap.size v r) : Tw w (W.setCell ⟨gl, i, none⟩ v) gl cl gm cm (L.set i v) M (ls.set i r) ms A3 c3 X A4 c4 Y := by
  have far : ∀ (u : Value) (m : List Nat), W.ownsRow w.heap.size 5 1 u m.length (m.map byteV) → (W.setCell ⟨gl, i, none⟩ v).ownsRow w.heap.size 5 1 u m.length (m.map byteV) := fun u m q => by
    refine ownsRow_setCell_other q (a := ⟨gl, i, none⟩) ?_ v
    rcases own_apart (by decide) q h.ol with e | e
    · rw [e]; exact fun q => by cases q
    · exact e
  have hlt := (h.ol.lt gl rfl).1
  exact {
    ol := (h.ol.stored i v).1
    rl := (h.rl.imp far).set i (hv.imp (far v r))
    om := ownsRow_setCell_other h.om (a := ⟨gl, i, none⟩) (by simp only [Value.ownBlock]; intro e; injection e with e; exact h.ne e.symm) v
    rm := h.rm.imp far
    b := h.b.setCell hlt v
    ne := h.ne
    ox := h.ox.imp (far _ _)
    oy := h.oy.imp (far _ _) }
theorem mix_next {mp lp : List Nat} {j : Nat} (h1 : j < mp.length) (h2 : j < lp.length) : (mp.take j ++ lp.drop j).set j mp[j] = mp.take (j + 1) ++ lp.drop (j + 1) := by
  have hl : (mp.take j).length = j := by simp; omega
  rw [List.set_append, hl, if_neg (by omega), Nat.sub_self, List.drop_eq_getElem_cons h2, List.set_cons_zero, List.take_succ_eq_append_getElem h1, List.append_assoc]
  rfl
theorem sealed_at {b : List Nat} (h : b.length = 448) (st : Nat) {k : Nat} (hk : k < 4) : (sealOf b st)[k]? = some (sectS st (chunkOf b k)) := by
  rw [sealOf_eq h]
  match k, hk with
  | 0, _ => rfl
  | 1, _ => rfl
  | 2, _ => rfl
  | 3, _ => rfl
set_option maxHeartbeats 8000000 in
theorem sealTorn_walk (v0 v1 v2 v3 v4 v5 v6 : Value) (w : World) (w0 : IsBytes w v0) (w1 : IsBytes w v1) (w2 : IsInt .u64 w v2) (w3 : IsInt .u64 w v3) (w4 : IsInt .u8 w v4) (w5 : IsInt .u8 w v5) (w6 : IsInt .u8 w v6) :
    Calls Try.prog 6 #[v0, v1, v2, v3, v4, v5, v6] w fun e w' => e = .returned (.bool true) ∧ Below w.heap.size w w' := by
  obtain ⟨A, c, l, rfl, hlc, hcm, hl⟩ := w0
  obtain ⟨A1, c1, l1, rfl, hlc1, hcm1, hl1⟩ := w1
  obtain ⟨a2, rfl, hwf2⟩ := w2
  obtain ⟨s, rfl, hs⟩ := nat_u64 hwf2
  obtain ⟨a3, rfl, hwf3⟩ := w3
  obtain ⟨t, rfl, ht⟩ := nat_u64 hwf3
  obtain ⟨a4, rfl, hwf4⟩ := w4
  obtain ⟨kp, rfl, hkp⟩ := nat_u8 hwf4
  obtain ⟨a5, rfl, hwf5⟩ := w5
  obtain ⟨at5, rfl, hat5⟩ := nat_u8 hwf5
  obtain ⟨a6, rfl, hwf6⟩ := w6
  obtain ⟨tn, rfl, htn⟩ := nat_u8 hwf6
  by_cases hbad : 448 < l.length ∨ 448 < l1.length ∨ s = t
  · rcases Nat.lt_or_ge 448 l.length with h1 | h1
    · have e1 : decide ((448 : Int) < (l.length : Int)) = true := by rw [decide_eq_true_iff]; omega
      clear hbad
      go_enter Try.func6, Try.ntmps6
      go_wp2_with (go_at_call 7; refine (known_any _).mono ?_; rintro e w1 ⟨rfl, hb1⟩)
      go_ret
      exact ⟨rfl, hb1⟩
    · have e1 : decide ((448 : Int) < (l.length : Int)) = false := by rw [decide_eq_false_iff_not]; omega
      rcases Nat.lt_or_ge 448 l1.length with h2 | h2
      · have e2 : decide ((448 : Int) < (l1.length : Int)) = true := by rw [decide_eq_true_iff]; omega
        clear hbad
        go_enter Try.func6, Try.ntmps6
        go_wp2_with (go_at_call 7; refine (known_any _).mono ?_; rintro e w1 ⟨rfl, hb1⟩)
        go_ret
        exact ⟨rfl, hb1⟩
      · have e2 : decide ((448 : Int) < (l1.length : Int)) = false := by rw [decide_eq_false_iff_not]; omega
        obtain rfl : s = t := by omega
        have e3 : ((s : Int) == (s : Int)) = true := by simp
        clear hbad
        go_enter Try.func6, Try.ntmps6
        go_wp2_with (go_at_call 7; refine (known_any _).mono ?_; rintro e w1 ⟨rfl, hb1⟩)
        go_ret
        exact ⟨rfl, hb1⟩
  have hl448 : l.length ≤ 448 := by omega
  have hl1448 : l1.length ≤ 448 := by omega
  have hne : s ≠ t := by omega
  have e1 : decide ((448 : Int) < (l.length : Int)) = false := by rw [decide_eq_false_iff_not]; omega
  have e2 : decide ((448 : Int) < (l1.length : Int)) = false := by rw [decide_eq_false_iff_not]; omega
  have e3 : ((s : Int) == (t : Int)) = false := by rw [beq_eq_false_iff_ne]; omega
  clear hbad
  go_enter Try.func6, Try.ntmps6
  go_wp2_with fail
  refine (known_any _).mono ?_
  rintro e w2 ⟨rfl, hb2⟩
  have hpg := page_any A c l _ w2 (hl.below hb2) hb2.size hlc (by omega)
  go_wp2_with fail
  refine hpg.mono ?_
  clear hpg
  rintro e w3 ⟨X, hX, A3, c3, rfl, hown3, hb3, hsm3⟩
  have hc3 := own_cap hown3
  have hbw3 := hb2.trans (hb3.mono hb2.size)
  have ox3 : RowIs w3 w.heap.size (.slice A3 X.length c3) X := ⟨⟨_, _, rfl⟩, own_base hb2.size hown3, hsm3⟩
  have hpg := page_any A1 c1 l1 _ w3 (hl1.below hbw3) hbw3.size hlc1 (by omega)
  clear hown3 hb3
  rw [hX]
  go_wp2_with fail
  refine hpg.mono ?_
  clear hpg
  rintro e w4 ⟨Y, hY, A4, c4, rfl, hown4, hb4, hsm4⟩
  have hc4 := own_cap hown4
  have hbw4 := hbw3.trans (hb4.mono hbw3.size)
  have ox4 := ox3.imp (fun q => kept_none (below_none hb4) q)
  have oy4 : RowIs w4 w.heap.size (.slice A4 Y.length c4) Y := ⟨⟨_, _, rfl⟩, own_base hbw3.size hown4, hsm4⟩
  have hsl := Seal_any A3 X c3 hc3 s hs w4 (own_bytes ox4.2.1 ox4.2.2)
  rw [hX] at hsl
  rw [hY]
  clear hown4 hb4 ox3
  go_wp2_with fail
  refine hsl.mono ?_
  clear hsl
  rintro e w5 ⟨A5, cl, L5, rfl, hown5, hr5, hb5⟩
  have hbw5 := hbw4.trans (hb5.mono hbw4.size)
  have ox5 := ox4.imp (fun q => kept_none (below_none hb5) q)
  have oy5 := oy4.imp (fun q => kept_none (below_none hb5) q)
  have hsl := Seal_any A4 Y c4 hc4 t ht w5 (own_bytes oy5.2.1 oy5.2.2)
  rw [hY] at hsl
  rw [sealOf_length hX] at hown5 ⊢
  obtain ⟨gl, rfl, hgl, hgl'⟩ := own_pos hown5 (by omega)
  have own5 := own_base hbw4.size hown5
  have rows5 : Rows w5 w.heap.size L5 (sealOf X s) := hr5.imp' fun v l q => own_base hbw4.size q
  clear hown5 hr5 hb5 ox4 oy4
  go_wp2_with fail
  refine hsl.mono ?_
  clear hsl
  rintro e w6 ⟨A6, cm, M, rfl, hown6, hr6, hb6⟩
  rw [sealOf_length hY] at hown6 ⊢
  obtain ⟨gm, rfl, hgm, hgm'⟩ := own_pos hown6 (by omega)
  have T0 : Tw w w6 gl cl gm cm L5 M (sealOf X s) (sealOf Y t) A3 c3 X A4 c4 Y := {
    ol := kept_none (below_none hb6) own5
    rl := rows5.imp fun v l q => kept_none (below_none hb6) q
    om := own_base hbw5.size hown6
    rm := hr6.imp' fun v l q => own_base hbw5.size q
    b := hbw5.trans (hb6.mono hbw5.size)
    ne := by omega
    ox := ox5.imp (fun q => kept_none (below_none hb6) q)
    oy := oy5.imp (fun q => kept_none (below_none hb6) q) }
  clear hown6 hr6 hb6 own5 rows5 ox5 oy5 hbw5 hbw4 hbw3 hgl hgl' hgm hgm' hb2 hl hl1
  go_wp2_with fail
  go_loopw [19] (fun i wr => ∃ (k : Nat) (L : List Value) (ls : List (List Nat)), k ≤ 4 ∧ i = .int .i64 k ∧ Tw w wr gl cl gm cm L M ls (sealOf Y t) A3 c3 X A4 c4 Y ∧ ls.length = 4 ∧ Hid (∀ j (hj : j < ls.length), ls[j] = sectS s (chunkOf X j) ∨ ls[j] = sectS t (chunkOf Y j))) (fun i _ => 4 - (intOf i).toNat)
  case atStart =>
    refine ⟨0, L5, sealOf X s, by omega, rfl, T0, sealOf_length hX s, ?_⟩
    rw [sealOf_eq hX]
    intro j hj
    left
    match j, hj with
    | 0, _ => rfl
    | 1, _ => rfl
    | 2, _ => rfl
    | 3, _ => rfl
  case round =>
    obtain ⟨k, L, ls, hk, rfl, T1, hls4, HL⟩ := hrel
    rcases Nat.lt_or_ge k 4 with hlt | hge
    · have hk4 : decide ((k : Int) < 4) = true := by rw [decide_eq_true_iff]; omega
      have hk0 : (0 : Int) ≤ (k : Int) := by omega
      have hk1 : (k : Int) < 4 := by omega
      have hM4 : M.length = 4 := T1.rm.1.trans (sealOf_length hY t)
      have hL4 : L.length = 4 := T1.rl.1.trans hls4
      obtain ⟨v, hv⟩ : ∃ v, M[k]? = some v := ⟨_, List.getElem?_eq_getElem (by omega)⟩
      obtain ⟨u, hu⟩ : ∃ u, L[k]? = some u := ⟨_, List.getElem?_eq_getElem (by omega)⟩
      have hrow := T1.rm.2 k v _ hv (sealed_at hY t hlt)
      obtain ⟨Av, cv, ev⟩ := hrow.1
      rw [sectS_length (chunk112 hY hlt)] at ev
      subst ev
      have qm : wr.cell? ⟨gm, k, none⟩ = some (.slice Av 128 cv) := (T1.om.cellAt k (by omega)).trans hv
      have ql : wr.cell? ⟨gl, k, none⟩ = some u := (T1.ol.cellAt k (by omega)).trans hu
      have qf : wr.frozen? ⟨gl, k, none⟩ = false := T1.ol.frozenAt k
      have T2 := T1.set k hrow
      have HL2 : Hid (∀ j (hj : j < (ls.set k (sectS t (chunkOf Y k))).length), (ls.set k (sectS t (chunkOf Y k)))[j] = sectS s (chunkOf X j) ∨ (ls.set k (sectS t (chunkOf Y k)))[j] = sectS t (chunkOf Y j)) := by
        intro j hj
        rw [List.getElem_set]
        split
        · rename_i e; subst e; exact .inr rfl
        · exact HL.out j (by rw [List.length_set] at hj; exact hj)
      have hls5 : (ls.set k (sectS t (chunkOf Y k))).length = 4 := by rw [List.length_set]; exact hls4
      have T1h := Lib.hid T1
      have T2h := Lib.hid T2
      clear hM4 hL4 hv hu hrow T1 T2
      generalize ls.set k (sectS t (chunkOf Y k)) = ls' at *
      generalize L.set k (.slice Av 128 cv) = L' at *
      go_wp2_with fail
      all_goals first
        | exact ⟨⟨k + 1, L', ls', by omega, by go_num, T2h.out, hls5, HL2⟩, by simp [intOf]; omega⟩
        | exact ⟨⟨k + 1, L, ls, by omega, by go_num, T1h.out, hls4, HL⟩, by simp [intOf]; omega⟩
    · obtain rfl : k = 4 := by omega
      have hk4 : decide ((4 : Int) < 4) = false := rfl
      obtain ⟨wa, hwa⟩ : ∃ wa, wa = wr := ⟨_, rfl⟩
      subst hwa
      obtain ⟨p, hp⟩ : ∃ p, at5 % 4 = p := ⟨_, rfl⟩
      have hp4 : p < 4 := by omega
      have hpI : (at5 : Int) % 4 = (p : Int) := by omega
      have htm : Int.tmod (at5 : Int) 4 = (p : Int) := by rw [Int.tmod_eq_emod_of_nonneg (by omega)]; exact hpI
      have hp0 : (0 : Int) ≤ (p : Int) := by omega
      have hp4I : (p : Int) < 4 := by omega
      have hpw : IntKind.u8.wrap (p : Int) = (p : Int) := by rw [IntKind.wrap_u8]; omega
      have hpw2 : IntKind.i64.wrap (p : Int) = (p : Int) := by rw [IntKind.wrap_i64]; omega
      have hM4 : M.length = 4 := T1.rm.1.trans (sealOf_length hY t)
      have hL4 : L.length = 4 := T1.rl.1.trans hls4
      obtain ⟨v, hv⟩ : ∃ v, M[p]? = some v := ⟨_, List.getElem?_eq_getElem (by omega)⟩
      obtain ⟨u, hu⟩ : ∃ u, L[p]? = some u := ⟨_, List.getElem?_eq_getElem (by omega)⟩
      have hrow := T1.rm.2 p v _ hv (sealed_at hY t hp4)
      obtain ⟨Av, cv, ev⟩ := hrow.1
      have hmp128 : (sectS t (chunkOf Y p)).length = 128 := sectS_length (chunk112 hY hp4)
      rw [hmp128] at ev
      subst ev
      have hrowl := T1.rl.2 p u _ hu (List.getElem?_eq_getElem (show p < ls.length by omega))
      obtain ⟨Au, cu, eu⟩ := hrowl.1
      have hlpc := HL.out p (by omega)
      have hlp128 : ls[p].length = 128 := by
        rcases hlpc with e | e
        · rw [e]; exact sectS_length (chunk112 hX hp4)
        · rw [e]; exact hmp128
      rw [hlp128] at eu
      subst eu
      have qm : wa.cell? ⟨gm, p, none⟩ = some (.slice Av 128 cv) := (T1.om.cellAt p (by omega)).trans hv
      have ql : wa.cell? ⟨gl, p, none⟩ = some (.slice Au 128 cu) := (T1.ol.cellAt p (by omega)).trans hu
      have hmb : Bytes wa wa.heap.size Av (sectS t (chunkOf Y p)) := by
        have hq := hrow.2.1
        rw [hmp128] at hq
        exact own_bytes hq hrow.2.2
      have hlb : Bytes wa wa.heap.size Au ls[p] := by
        have hq := hrowl.2.1
        rw [hlp128] at hq
        exact own_bytes hq hrowl.2.2
      have hlent := lent_any Au cu ls[p] _ wa hlb (by omega)
      obtain ⟨lp, hlpe⟩ : ∃ lp, ls[p] = lp := ⟨_, rfl⟩
      obtain ⟨mp, hmpe⟩ : ∃ mp, sectS t (chunkOf Y p) = mp := ⟨_, rfl⟩
      rw [hlpe] at hlent hlb hlp128 hlpc
      rw [hmpe] at hmb hmp128
      rw [hlp128] at hlent
      have HLP := Lib.hid hlpc
      have HMP := Lib.hid hmpe
      have T1h := Lib.hid T1
      have hgm2 := T1.om.lt gm rfl
      clear hv hu hrow hrowl T1 hM4 hL4 hlpe hmpe hlpc hp
      go_wp2_with fail
      refine hlent.mono ?_
      clear hlent
      rintro e w7 ⟨A7, c7, rfl, hown7, hb7⟩
      obtain ⟨go, rfl, hgo, hgo'⟩ := own_pos hown7 (by omega)
      have qm7 := (hb7.cell (p := ⟨gm, p, none⟩) hgm2.2).trans qm
      have ht128 : ((128 : Int) != 128) = false := rfl
      obtain ⟨n, hn⟩ : ∃ n, tn % 129 = n := ⟨_, rfl⟩
      have hn128 : n ≤ 128 := by omega
      have hnI : (tn : Int) % 129 = (n : Int) := by omega
      have hnt : Int.tmod (tn : Int) 129 = (n : Int) := by rw [Int.tmod_eq_emod_of_nonneg (by omega)]; exact hnI
      have hnw : IntKind.u8.wrap (n : Int) = (n : Int) := by rw [IntKind.wrap_u8]; omega
      have hnw2 : IntKind.i64.wrap (n : Int) = (n : Int) := by rw [IntKind.wrap_i64]; omega
      clear hn ql
      go_wp2_with fail
      go_loopw [22] (fun i wr => ∃ (j : Nat), j ≤ n ∧ i = .int .i64 j ∧ wr.ownsRow wa.heap.size 5 1 (.slice (some ⟨go, 0, none⟩) 128 c7) 128 ((mp.take j ++ lp.drop j).map byteV) ∧ Below wa.heap.size wa wr) (fun i _ => n - (intOf i).toNat)
      case atStart => exact ⟨0, by omega, rfl, hown7, hb7⟩
      case round =>
        clear hown7 hb7 qm7
        obtain ⟨j, hj, rfl, hown, hb⟩ := hrel
        rcases Nat.lt_or_ge j n with hlt | hge
        · have hjn : decide ((j : Int) < (n : Int)) = true := by rw [decide_eq_true_iff]; omega
          have hj0 : (0 : Int) ≤ (j : Int) := by omega
          have hj1 : (j : Int) < 128 := by omega
          have qm8 := (hb.cell (p := ⟨gm, p, none⟩) hgm2.2).trans qm
          obtain ⟨gp, op, rfl, hgp, qb, qx⟩ := (hmb.below hb).at_ (k := j) (by omega)
          have hz := hown.frozenAt j
          have hlen : (mp.take j ++ lp.drop j).length = 128 := by simp [hmp128, hlp128]; omega
          obtain ⟨v0, hv0⟩ : ∃ v0, wr.cell? ⟨go, j, none⟩ = some v0 := by
            have := hown.cellAt j (by omega)
            rw [List.getElem?_eq_getElem (by rw [List.length_map]; omega)] at this
            exact ⟨_, this⟩
          have hmx := mix_next (mp := mp) (lp := lp) (j := j) (by omega) (by omega)
          obtain ⟨y, hy⟩ : ∃ y, mp[j] = y := ⟨_, rfl⟩
          rw [hy] at qb qx hmx
          have hst := (hown.stored j (byteV y)).1
          rw [← List.map_set, hmx] at hst
          have HST := Lib.hid hst
          clear hst hmx hy hown hlen
          go_wp2_with fail
          go_roundw
          case rel => exact ⟨j + 1, by omega, by go_num, HST.out, hb.setCell hgo _⟩
          case measure => simp [intOf]; omega
        · obtain rfl : j = n := by omega
          have hjn : decide ((j : Int) < (j : Int)) = false := by rw [decide_eq_false_iff_not]; omega
          have T5 := T1h.out.keep hb
          have hL4 : L.length = 4 := T5.rl.1.trans hls4
          have ql5 : ∃ u5, wr.cell? ⟨gl, p, none⟩ = some u5 := ⟨_, (T5.ol.cellAt p (by omega)).trans (List.getElem?_eq_getElem (by omega))⟩
          obtain ⟨u5, ql5⟩ := ql5
          have qf5 := T5.ol.frozenAt p
          have hzl : (mp.take j ++ lp.drop j).length = 128 := by simp [hmp128, hlp128]; omega
          have hzr : RowIs wr w.heap.size (.slice (some ⟨go, 0, none⟩) 128 c7) (mp.take j ++ lp.drop j) := by
            refine ⟨⟨_, _, by rw [hzl]⟩, ?_, fun y hy => ?_⟩
            · rw [hzl]; exact own_base T1h.out.b.size hown
            · rcases List.mem_append.1 hy with hy | hy
              · exact hmb.2 y (List.mem_of_mem_take hy)
              · exact hlb.2 y (List.mem_of_mem_drop hy)
          have T6 := T5.set p hzr
          have hls6 : (ls.set p (mp.take j ++ lp.drop j)).length = 4 := by rw [List.length_set]; exact hls4
          have hlen6 : ∀ z ∈ ls.set p (mp.take j ++ lp.drop j), z.length ≤ 200 := by
            intro z hz
            rcases List.mem_or_eq_of_mem_set hz with hz | rfl
            · obtain ⟨q, hq, rfl⟩ := List.mem_iff_getElem.1 hz
              rcases HL.out q hq with e | e
              · rw [e, sectS_length (chunk112 hX (by omega))]; omega
              · rw [e, sectS_length (chunk112 hY (by omega))]; omega
            · omega
          have hlike : ∀ q (hq : q < (ls.set p (mp.take j ++ lp.drop j)).length), LikeS s t (chunkOf X q) (chunkOf Y q) (ls.set p (mp.take j ++ lp.drop j))[q] := by
            intro q hq
            rw [List.getElem_set]
            split
            · rename_i e
              subst e
              rw [← HMP.out]
              rcases HLP.out with e | e
              · rw [e]; exact like_torn hne hs ht (chunk112 hX hp4) (chunk112 hY hp4) j (by omega)
              · rw [e]; exact like_same ht (chunk112 hY hp4) j
            · rw [List.length_set] at hq
              rcases HL.out q hq with e | e
              · rw [e]; exact like_own hs (chunk112 hX (by omega))
              · rw [e]; exact like_other ht (chunk112 hY (by omega))
          have hops := torn_opens hne hX hY hls6 hlike
          have hopen := open_any (some ⟨gl, 0, none⟩) cl _ _ _ _ (At.own T6.ol) T6.rl.reads (Nat.le_refl _) hlen6
          rw [hls6] at hopen
          have T6h := Lib.hid T6
          clear T5 T6 hL4 hzl hzr hls6 hlen6 hlike hown hb hmb hlb HL HMP HLP T1h
          generalize ls.set p (mp.take j ++ lp.drop j) = ls' at *
          generalize L.set p (.slice (some ⟨go, 0, none⟩) 128 c7) = L' at *
          go_wp2_with fail
          generalize wr.setCell ⟨gl, p, none⟩ (.slice (some ⟨go, 0, none⟩) 128 c7) = W6 at *
          refine hopen.mono ?_
          clear hopen
          rintro e w8 ⟨A8, c8, rfl, r8⟩
          have hb8 : Below w.heap.size w w8 := T6h.out.b.trans (r8.2.1.mono T6h.out.b.size)
          have T8 := T6h.out.keep r8.2.1
          have hx8 := own_bytes T8.ox.2.1 T8.ox.2.2
          have hy8 := own_bytes T8.oy.2.1 T8.oy.2.2
          have r8b := r8.bytes
          clear T8 T6h r8
          cases hok : openOk ls' with
          | false =>
            clear hops hok r8b hx8 hy8
            go_wp2_with fail
            go_ret
            exact ⟨rfl, hb8⟩
          | true =>
            rcases hops hok with ⟨hN, hB⟩ | ⟨hN, hB⟩
            · rw [hN, hB]
              rw [hB] at r8b
              have hsame := same_any A8 A3 c8 c3 X X _ w8 r8b hx8
              rw [decide_eq_true rfl, hX] at hsame
              rw [hX]
              have es : ((s : Int) == (s : Int)) = true := by simp
              clear hops hok r8b hx8 hy8 hN hB
              go_wp2_with (go_at_call 12; refine hsame.mono ?_; rintro e w9 ⟨rfl, rfl⟩)
              go_ret
              exact ⟨rfl, hb8⟩
            · rw [hN, hB]
              rw [hB] at r8b
              have hsame := same_any A8 A4 c8 c4 Y Y _ w8 r8b hy8
              rw [decide_eq_true rfl, hY] at hsame
              rw [hY]
              have es : ((t : Int) == (s : Int)) = false := by rw [beq_eq_false_iff_ne]; omega
              have et : ((t : Int) == (t : Int)) = true := by simp
              clear hops hok r8b hx8 hy8 hN hB
              go_wp2_with (go_at_call 12; refine hsame.mono ?_; rintro e w9 ⟨rfl, rfl⟩)
              go_ret
              exact ⟨rfl, hb8⟩
end Go.Proofs.Ytkmfacmigonbcaa
