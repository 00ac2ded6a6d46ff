/- The law StripFronts, walked. Conditions: none beyond what the row says. -/
import Derived.Test.YtobebgogbgeahaaLaws3
import Derived.Test.YtobebgogbgeahaaArgs
import Derived.Test.YtobebgogbgeahaaMath2
import Derived.Deep.DeepCutAuto
namespace Go.Proofs.Ytobebgogbgeahaa
open Go.ChangeShapes Go.WideShapes Go.ChangeAt Go.RowKit
set_option linter.unusedVariables false
set_option linter.unusedSimpArgs false
set_option maxRecDepth 20000

theorem Rows.set {w : World} {base : Nat} {L : List Value} {ls : List (List Nat)} (h : Rows w base L ls) (i : Nat) {v : Value} {l : List Nat} (hv : RowIs w base v l) : Rows w base (L.set i v) (ls.set i l) :=
  ⟨by rw [List.length_set, List.length_set, h.1], fun j u m hu hm => by
    rw [List.getElem?_set] at hu hm
    by_cases e : i = j
    · rw [if_pos e] at hu hm
      split at hu
      · split at hm
        · cases hu; cases hm; exact hv
        · cases hm
      · cases hu
    · rw [if_neg e] at hu hm
      exact h.2 j u m hu hm⟩
theorem torn_small {c c0 : List Nat} {t : Nat} (h : c.length ≤ 127) (h0 : c0.length ≤ 127) (hs : Small c) (hs0 : Small c0) : Small (tornOf c c0 t) := fun x hx => by
  rcases List.mem_append.1 hx with hx | hx
  · exact sectorOf_small h hs x (List.mem_of_mem_take hx)
  · exact sectorOf_small h0 hs0 x (List.mem_of_mem_drop hx)
theorem chunk_small {l : List Nat} (h : Small l) (i : Nat) : Small (chunkOf l i) := fun x hx => h x (List.mem_of_mem_drop (List.mem_of_mem_take hx))
theorem below_none {w w' : World} (h : Below w.heap.size w w') : w.grownBy w' none := ⟨h.os, h.tape, h.output, h.size, fun i hi _ => h.block i hi⟩
theorem kept_none {w w' : World} (h : w.grownBy w' none) {base : Nat} {e : TypeId} {s : Nat} {v : Value} {n : Nat} {xs : List Value} (ho : w.ownsRow base e s v n xs) : w'.ownsRow base e s v n xs := ho.kept h (by cases h : v.ownBlock <;> simp)

set_option maxHeartbeats 2000000 in
theorem stripFronts_walk (v0 : Value) (v1 : Value) (v2 : Value) (v3 : Value) (w : World) (w0 : IsBytes w v0) (w1 : IsInt .i64 w v1) (w2 : IsInt .u8 w v2) (w3 : IsInt .u8 w v3) :
    Calls Try.prog 6 #[v0, v1, v2, v3] w fun e w' => e = .returned (.bool true) ∧ Below w.heap.size w w' := by
  obtain ⟨a0, cap0, l, rfl, hlc, hcm, hl⟩ := w0
  obtain ⟨kk, rfl, hkk⟩ := w1
  obtain ⟨a2, rfl, ha2⟩ := w2
  obtain ⟨x2, rfl, hx2⟩ := nat_u8 ha2
  obtain ⟨a3, rfl, ha3⟩ := w3
  obtain ⟨x3, rfl, hx3⟩ := nat_u8 ha3
  clear ha2 ha3
  rcases Nat.lt_or_ge 2000 l.length with hlt | hge
  · have ht : decide ((2000 : Int) < (l.length : Int)) = true := by rw [decide_eq_true_iff]; omega
    go_enter Try.func6, Try.ntmps6
    go_wp2_with (go_at_call 8; refine (known_any _).mono ?_; rintro e w1 ⟨rfl, hb1⟩)
    go_ret
    exact ⟨rfl, hb1⟩
  have ht : decide ((2000 : Int) < (l.length : Int)) = false := by rw [decide_eq_false_iff_not]; omega
  have hkb := bounds_i64 hkk
  go_enter Try.func6, Try.ntmps6
  go_wp2_with fail
  refine (known_any _).mono ?_
  rintro e w2 ⟨rfl, hb2⟩
  go_upto_region 3 with fail
  go_cut [9] (fun s9 wx => w2 = wx ∧ ∃ n : Nat, n ≤ l.length ∧ s9 = .int .i64 n)
  case first =>
    rcases (show kk < 0 ∨ 0 ≤ kk by omega) with hneg | hpos
    · go_wp2
      go_meet
      case rel => exact ⟨rfl, 0, by omega, rfl⟩
    · obtain ⟨K, rfl⟩ : ∃ K : Nat, kk = K := ⟨kk.toNat, by omega⟩
      have hm : (K : Int) % ((l.length : Int) + 1) = ((K % (l.length + 1) : Nat) : Int) := by rw [Int.natCast_emod, Int.natCast_add]; rfl
      have hn : K % (l.length + 1) ≤ l.length := by have := Nat.mod_lt K (show 0 < l.length + 1 by omega); omega
      generalize K % (l.length + 1) = n at *
      have hnn : ¬ ((K : Int) < 0) := by omega
      go_wp2
      go_meet
      case rel => exact ⟨rfl, n, hn, rfl⟩
  case rest =>
  obtain ⟨rfl, n, hn, rfl⟩ := hcut
  obtain ⟨i0, hi0, hz0, hz1, hz2⟩ := info_parts u8_info
  have hnc : n ≤ cap0 := by omega
  have htl : (l.take n).length = n := by simp; omega
  have hlay1 := lay_any a0 (l.take n) cap0 w2.heap.size (by omega) (by omega) w2 (Nat.le_refl _) (((hl.below hb2).take n).more hb2.size)
  rw [htl] at hlay1
  have hlaw := fun i t hi ht => fronts_law l n i t hi ht
  have hll := layOf_length l
  have hll0 := layOf_length (l.take n)
  have hgs : ∀ i (h : i < (layOf l).length), (layOf l)[i] = sectorOf (chunkOf l i) := fun i h => by simp [layOf]
  have hgs0 : ∀ i (h : i < (layOf (l.take n)).length), (layOf (l.take n))[i] = sectorOf (chunkOf (l.take n) i) := fun i h => by simp [layOf]
  have hcl : ∀ i, (chunkOf l i).length ≤ 127 := fun i => by rw [chunkOf_length]; omega
  have hcl0 : ∀ i, (chunkOf (l.take n) i).length ≤ 127 := fun i => by rw [chunkOf_length]; omega
  have hcs := fun i => chunk_small hl.2 i
  have hcs0 : ∀ i, Small (chunkOf (l.take n) i) := fun i => chunk_small (fun x hx => hl.2 x (List.mem_of_mem_take hx)) i
  have hno : ∀ i, ¬ i < chunks (l.take n) → chunkOf (l.take n) i = [] := fun i h => List.eq_nil_of_length_eq_zero (by rw [chunkOf_length]; unfold chunks at h; omega)
  have hN1 := chunks_le (l := l) (by omega)
  have hN0 := chunks_le (l := l.take n) (by omega)
  generalize chunkOf (l.take n) = C0 at *
  generalize layOf (l.take n) = S0 at *
  generalize chunks (l.take n) = N0 at *
  have hlay2 := fun (W : World) (hW : Bytes W W.heap.size a0 l) => lay_any a0 l cap0 W.heap.size (by omega) (by omega) W (Nat.le_refl _) hW
  generalize hS : layOf l = S at *
  generalize hC : chunkOf l = C at *
  generalize hN : chunks l = N at *
  clear htl hS hC hN
  go_wp2_with fail
  refine hlay1.mono ?_
  clear hlay1
  intro e w4 hret4
  obtain ⟨A4, c4, L4, rfl, hown4, -, hb4, hat4, hrd4⟩ := hret4.is
  have hbw4 := hb2.trans (hb4.mono hb2.size)
  clear hret4 hown4
  go_wp2_with fail
  refine (hlay2 w4 ((hl.below hbw4).more hbw4.size)).mono ?_
  clear hlay2
  intro e w6 hret6
  obtain ⟨A6, c6, L6, rfl, hown6, hr6, hb6, hat6, hrd6⟩ := hret6.is
  have hbw6 := hbw4.trans (hb6.mono hbw4.size)
  have hat4 := (hat4.below hb6)
  have hrd4 := (hrd4.below hb6)
  have hsz46 := hb6.size
  clear hret6
  rw [hll] at hown6
  rw [hll]
  by_cases hN : N = 0
  · have hz : ((N : Int) == 0) = true := by rw [beq_iff_eq]; omega
    go_wp2
    go_ret
    exact ⟨rfl, hbw6⟩
  have hz : ((N : Int) == 0) = false := by rw [beq_eq_false_iff_ne]; omega
  obtain ⟨i, hi⟩ : ∃ i, x2 % N = i := ⟨_, rfl⟩
  have hiN : i < N := by rw [← hi]; exact Nat.mod_lt _ (by omega)
  have hi2 : (x2 : Int) % (N : Int) = (i : Int) := by rw [← hi, Int.natCast_emod]
  have hi1 : (x2 : Int).tmod (N : Int) = (i : Int) := by rw [Int.tmod_eq_emod_of_nonneg (by omega)]; exact hi2
  clear hi
  have HLL := Lib.hid hll
  have HLL0 := Lib.hid hll0
  clear hll hll0
  go_upto_if 48 with (at_make; refine wpList_make_full _ rfl _ _ 22 rfl w6.heap.size 5 i0 _ 1 Try.underlying22 hi0 hz0 hz1 .i64 .i64 _ _ 128 rfl rfl rfl rfl (by rw [hz2]; omega) (by unfold maxLen; omega) (Nat.le_refl _) ?_; intro w7 hown7 hg7)
  have hb7 : Below w6.heap.size w6 w7 := (Below.refl _ _).grown hg7 (Nat.le_refl _) (by simp)
  have hown7 : w7.ownsRow w6.heap.size 5 1 (.slice (some ⟨w6.heap.size, 0, none⟩) 128 128) 128 ((sectorOf []).map byteV) := by
    have e : (madeCells (Value.int .u8 0).cells (128 * 1)).toList = (sectorOf []).map byteV := by
      rw [Nat.mul_one, ← zeros_sector, List.map_replicate]
      exact toList_madeCells_one _ 128
    rw [← e]
    exact hown7
  clear hg7
  go_cut [13] (fun s13 wx => ∃ A8 c8, s13 = .slice A8 128 c8 ∧ wx.ownsRow w6.heap.size 5 1 (.slice A8 128 c8) 128 ((tornOf (C i) (C0 i) 0).map byteV) ∧ Below w6.heap.size w6 wx)
  case first =>
    by_cases hi0 : i < N0
    · have ht0 : decide ((i : Int) < (N0 : Int)) = true := by rw [decide_eq_true_iff]; omega
      obtain ⟨Ai, ci, e1, hci, bi⟩ := hrd4.2 i _ (List.getElem?_eq_getElem (by rw [HLL0.out]; exact hi0))
      obtain ⟨b, o, rfl, hbB, q1⟩ := hat4 i (by rw [hrd4.1, HLL0.out]; exact hi0)
      rw [← List.getElem?_eq_getElem, e1] at q1
      rw [hgs0] at q1 bi hci
      have hsl := sectorOf_length (hcl0 i)
      rw [hsl] at q1
      have p1 := (hb7.cell (p := ⟨b, o + i, none⟩) (show b < w6.heap.size by omega)).trans q1
      have hlent := lent_any Ai ci _ w4.heap.size w7 (bi.below (hb7.mono hsz46)) (by rw [hsl]; omega)
      rw [hsl] at hlent
      clear e1 q1 bi hrd4 hat4 hgs0 hgs hlaw hcl hcl0 hno hsl hcs hcs0
      go_wp2_with fail
      refine hlent.mono ?_
      rintro e w8 ⟨A8, c8, rfl, hown8, hb8⟩
      go_wp2
      go_meet
      case rel => exact ⟨A8, c8, rfl, by rw [torn_zero]; exact own_base hb7.size hown8, hb7.trans (hb8.mono hb7.size)⟩
    · have ht0 : decide ((i : Int) < (N0 : Int)) = false := by rw [decide_eq_false_iff_not]; omega
      have hno := Lib.hid (hno i hi0)
      clear hrd4 hat4 hgs0 hgs hlaw hcl hcl0 hcs hcs0
      go_wp2
      go_meet
      case rel => exact ⟨_, _, rfl, by rw [torn_zero, hno.out]; exact hown7, hb7⟩
  case rest =>
  obtain ⟨A8, c8, rfl, hown8, hb8⟩ := hcut
  obtain ⟨Ai, ci, e1, hci, bi⟩ := hrd6.2 i _ (List.getElem?_eq_getElem (by rw [HLL.out]; exact hiN))
  obtain ⟨gl, rfl, hgl, hgl'⟩ := own_pos hown6 (by omega)
  have q1 := (hown6.cellAt i (by omega)).trans e1
  rw [hgs] at q1 bi hci
  have hsl := sectorOf_length (hcl i)
  rw [hsl] at q1
  have hts := torn_small (t := x3 % 129) (hcl i) (hcl0 i) (hcs i) (hcs0 i)
  clear hcs hcs0
  clear e1 hrd6 hat6 hrd4 hat4 hgs0 hgs hno
  obtain ⟨t, ht9⟩ : ∃ t, x3 % 129 = t := ⟨_, rfl⟩
  have ht1 : (x3 : Int) % 129 = (t : Int) := by omega
  have ht2 : (x3 : Int).tmod 129 = (t : Int) := by rw [Int.tmod_eq_emod_of_nonneg (by omega)]; exact ht1
  have ht128 : t ≤ 128 := by omega
  rw [ht9] at hts
  obtain ⟨g8, rfl, hg8, hg8'⟩ := own_pos hown8 (by omega)
  clear ht9
  have p1 := (hb8.cell (p := ⟨gl, i, none⟩) hgl').trans q1
  go_wp2_with fail
  clear p1
  go_loopw [14] (fun i' wr => ∃ j : Nat, j ≤ t ∧ i' = .int .i64 j ∧ wr.ownsRow w6.heap.size 5 1 (.slice (some ⟨g8, 0, none⟩) 128 c8) 128 ((tornOf (C i) (C0 i) j).map byteV) ∧ Below w6.heap.size w6 wr) (fun i' _ => t - (intOf i').toNat)
  case atStart => exact ⟨0, by omega, rfl, hown8, hb8⟩
  case round =>
    obtain ⟨j, hj, rfl, hown, hb⟩ := hrel
    clear hown8 hb8
    have p1 := (hb.cell (p := ⟨gl, i, none⟩) hgl').trans q1
    rcases Nat.lt_or_ge j t with hlt | hge
    · have hjt : decide ((j : Int) < (t : Int)) = true := by rw [decide_eq_true_iff]; omega
      obtain ⟨b', o', rfl, _, hc', hs'⟩ := (bi.below hb).at_ (k := j) (by rw [hsl]; omega)
      have hset := torn_set (c := C i) (c0 := C0 i) (hcl i) (hcl0 i) (j := j) (by omega) _ (List.getElem?_eq_getElem (by rw [hsl]; omega))
      generalize (sectorOf (C i))[j] = y at *
      have hz := hown.frozenAt j
      obtain ⟨v0, hv0⟩ : ∃ v0, wr.cell? ⟨g8, j, none⟩ = some v0 := ⟨_, (hown.cellAt j (by omega)).trans (List.getElem?_eq_getElem (by rw [hown.1]; omega))⟩
      have hst := Lib.hid (hown.stored j (byteV y))
      have HS := Lib.hid hset
      clear hset hlaw bi hl hcl hcl0
      go_wp2
      go_roundw
      case rel =>
        obtain ⟨s1, s2⟩ := hst.out
        refine ⟨j + 1, by omega, by go_num, ?_, below_own (v := .slice (some ⟨g8, 0, none⟩) 128 c8) hb s2 hown (Nat.le_refl _) hb.size⟩
        rw [← HS.out, List.map_set]
        exact s1
      case measure => simp [intOf]; omega
    · obtain rfl : j = t := by omega
      have hjt : decide ((j : Int) < (j : Int)) = false := by rw [decide_eq_false_iff_not]; omega
      have hgn := below_none hb
      have hown6' := kept_none hgn hown6
      have hr6' := hr6.grown hgn
      have hz := hown6'.frozenAt i
      obtain ⟨v0, hv0⟩ : ∃ v0, wr.cell? ⟨gl, i, none⟩ = some v0 := ⟨_, (hown6'.cellAt i (by omega)).trans (List.getElem?_eq_getElem (by rw [hown6'.1]; omega))⟩
      have hst := hown6'.stored i (.slice (some ⟨g8, 0, none⟩) 128 c8)
      obtain ⟨wx, hwx⟩ : ∃ wx, wr.setCell ⟨gl, i, none⟩ (.slice (some ⟨g8, 0, none⟩) 128 c8) = wx := ⟨_, rfl⟩
      rw [hwx] at hst
      have htl := torn_length (c := C i) (c0 := C0 i) (hcl i) (hcl0 i) ht128
      have k5 : ∀ (u : Value) (m : List Nat), wr.ownsRow w4.heap.size 5 1 u m.length (m.map byteV) → wx.ownsRow w4.heap.size 5 1 u m.length (m.map byteV) := fun u m hu => hu.kept hst.2 (own_apart (by decide) hu hown6')
      have hown' := own_base hsz46 hown
      have hrx := (hr6'.imp k5).set i (v := .slice (some ⟨g8, 0, none⟩) 128 c8) (l := tornOf (C i) (C0 i) j) ⟨⟨_, _, by rw [htl]⟩, k5 _ _ (by rw [htl]; exact hown'), hts⟩
      have hbx : Below w.heap.size w wx := below_own (v := .slice (some ⟨gl, 0, none⟩) N c6) (hbw6.trans (hb.mono hbw6.size)) hst.2 hown6' hbw4.size (Nat.le_trans hsz46 hb.size)
      obtain ⟨g, hg1, hg2, hg3⟩ := hlaw i j hiN ht128
      have hlen : (S.set i (tornOf (C i) (C0 i) j)).length = N := by rw [List.length_set, HLL.out]
      have hread := read_any (some ⟨gl, 0, none⟩) c6 _ _ wx.heap.size wx (At.own hst.1) hrx.reads (Nat.le_refl _) (by rw [hlen]; omega)
      rw [hg3, hlen] at hread
      clear hrx k5 hst hown6' hr6' hlaw hown hown' htl hlen hcl hcl0 hg3 hown6 hr6 bi hgn
      go_upto_region 19 with fail
      clear hwx
      go_wp2_with fail
      refine hread.mono ?_
      clear hread
      intro e w9 hret9
      obtain ⟨A9, c9, rfl, -, hb9, hx9⟩ := hret9.is
      have hbw9 := hbx.trans (hb9.mono hbx.size)
      have hgl2 : (l.take g).length = g := by simp; omega
      have hsame := same_any A9 a0 c9 cap0 (l.take g) (l.take g) w9.heap.size w9 hx9 (((hl.below hbw9).take g).more hbw9.size)
      rw [hgl2, decide_eq_true rfl] at hsame
      rw [hgl2]
      have hgc : g ≤ cap0 := by omega
      have hd1 : decide (g ≤ l.length) = true := by rw [decide_eq_true_iff]; omega
      obtain ⟨p, hp⟩ : ∃ p, 127 * i = p := ⟨_, rfl⟩
      have hp1 : (127 : Int) * (i : Int) = (p : Int) := by omega
      have hpg : p ≤ g := by omega
      clear hret9 hgl2 hx9 hp hg1 hg2 hl HLL HLL0
      go_wp2_with fail
      refine hsame.mono ?_
      rintro e w10 ⟨rfl, rfl⟩
      clear hsame
      go_wp2_with fail
      all_goals
        go_ret
        refine ⟨?_, hbw9⟩
        first | rfl | exact ret_bool (by rw [decide_eq_true_iff]; omega)
end Go.Proofs.Ytobebgogbgeahaa
