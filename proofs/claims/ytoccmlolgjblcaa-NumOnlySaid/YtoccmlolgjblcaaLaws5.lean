/- A law of chapter 1, walked: what is read as a long number is written so. Conditions: none beyond what the rows say. -/
import Derived.Test.YtoccmlolgjblcaaLaws2
import Derived.Deep.RegionWith
import Derived.Deep.RegionHeld3
namespace Go.Proofs.Ytoccmlolgjblcaa
open Go.ChangeShapes Go.WideShapes Go.ChangeAt Go.RowKit
open NumMath
set_option linter.unusedVariables false
set_option linter.unusedSimpArgs false
set_option maxRecDepth 20000

theorem short_facts (l : List Nat) (hs : Small l) : (shortL l).2 = 0 ∨ (0 < (shortL l).2 ∧ (shortL l).2 ≤ 10 ∧ (shortL l).2 ≤ l.length ∧ longL (shortL l).1 = l.take (shortL l).2 ∧ (shortL l).1 < 18446744073709551616) := by
  rcases Nat.eq_zero_or_pos (shortL l).2 with h | h
  · exact .inl h
  · have := short_sound [] l (by simp) hs (shortL l).1 (shortL l).2 rfl h
    exact .inr ⟨h, by simpa using this.1, by simpa using this.2.1, by simpa using this.2.2.1, this.2.2.2⟩

set_option maxHeartbeats 1000000 in
theorem numOnly_walk (a0 : Option Addr) (len0 cap0 : Nat) (z0 : List Int) (a1 : Int) (a2 : Option Addr) (len2 cap2 : Nat) (z2 : List Int) (w : World) (w0 : IsRow .u8 w a0 len0 cap0 z0) (w1 : (Lit.int .u64 a1).wf = true) (w2 : IsRow .u8 w a2 len2 cap2 z2) :
    Calls Try.prog 9 #[.slice a0 len0 cap0, .int .u64 a1, .slice a2 len2 cap2] w fun e w' => e = .returned (.bool true) ∧ Below w.heap.size w w' := by
  obtain ⟨hlc, l, rfl, hl⟩ := w0.bytes
  obtain ⟨n, rfl, hn⟩ := nat_u64 w1
  obtain ⟨hmc, m, rfl, hm⟩ := w2.bytes
  clear w0 w1 w2 z0 z2
  obtain ⟨i0, hi0, hz0, hz1, hz2⟩ := info_parts u8_info
  rcases Nat.lt_or_ge 1000 l.length with hlt | hge
  · go_enter Try.func9, Try.ntmps9
    go_wp2_with (go_at_call 15; refine (known_any _).mono ?_; rintro e w1 ⟨rfl, hb1⟩)
    go_ret
    exact ⟨rfl, hb1⟩
  rcases Nat.lt_or_ge 1000 m.length with hlt | hge2
  · go_enter Try.func9, Try.ntmps9
    go_wp2_with (go_at_call 15; refine (known_any _).mono ?_; rintro e w1 ⟨rfl, hb1⟩)
    go_ret
    exact ⟨rfl, hb1⟩
  have hSF := short_facts l hl.2
  rcases hSF with h0 | ⟨h0, h1, h2, h3, h4⟩
  · go_enter Try.func9, Try.ntmps9
    go_wp2_with fail
    refine (known_any _).mono ?_
    rintro e w1 ⟨rfl, hb1⟩
    have hl1 := hl.below hb1
    have hm1 := hm.below hb1
    go_wp2_with fail
    refine (short_any _ _ _ _ _ hl1 (by omega)).mono ?_
    rintro e w' ⟨rfl, rfl⟩
    obtain ⟨k, hk⟩ : ∃ k, (shortL l).2 = k := ⟨_, rfl⟩
    rw [hk] at h0 ⊢
    have d1 : decide ((k : Int) < 0) = false := by rw [decide_eq_false_iff_not]; omega
    have d2 : decide ((10 : Int) < (k : Int)) = false := by rw [decide_eq_false_iff_not]; omega
    have d3 : decide (l.length < k) = false := by rw [decide_eq_false_iff_not]; omega
    have d4 : decide (0 < k) = false := by rw [decide_eq_false_iff_not]; omega
    clear h0 hk
    generalize (shortL l).1 = x at *
    go_wp2_with fail
    go_quiet (fail)
    generalize hwq : World.drewN _ _ = w2
    have HF2 : Below w.heap.size w w2 := by rw [← hwq]; exact hb1.trans (below_drewN (Below.refl _ _) _)
    clear hwq
    clear hl1 hb1 hm1 hl
    have hll := longL_length hn
    have hback := shortL_long n (show n < two64 from hn) m
    have hcut := shortL_cut n (show n < two64 from hn)
    have hsm := longL_small hn
    obtain ⟨L, hL⟩ : ∃ L, longL n = L := ⟨_, rfl⟩
    have hlong := long_any n w2 hn
    rw [hL] at hll hback hcut hsm hlong
    have HBK := Lib.hid (And.intro hback hcut)
    have HLG := Lib.hid hlong
    clear hback hcut hL hlong
    go_wp2_with fail
    refine HLG.out.mono ?_
    rintro e w3 ⟨A3, c3, rfl, hown3, hb3, hs3⟩
    have HF3 : Below w.heap.size w w3 := HF2.trans (hb3.mono HF2.size)
    have hm3 := hm.below HF3
    have hsz := HF2.size
    have hsz3 := hb3.size
    go_wp2_with (at_builtin; refine wpList_append_at rfl (.tmp 62) (.tmp 63) 30 rfl w2.heap.size 5 i0 _ 1 Try.underlying30 hi0 hz0 hz1 hz2 rfl (.slice A3 L.length c3) L.length (L.map byteV) rfl hown3 w.heap.size a2 m.length cap2 (m.map byteV) rfl (by simp) hm3.1 (bytes_oneCell _) (by unfold maxLen; omega) (by omega) hsz3 ?_; intro A4 c4 w4 hown4 hg4 hat4)
    have HF4 : Below w.heap.size w w4 := below_own HF3 hg4 hown3 hsz hsz3
    rw [← List.map_append] at hown4
    have hB4 := own_bytes hown4 (small_append hs3 hm.2)
    obtain ⟨g, rfl, _, _⟩ := own_pos hown4 (by omega)
    have hc4 := own_cap hown4
    have hsh := short_any _ c4 (L ++ m) _ w4 hB4 (by rw [List.length_append]; omega)
    rw [List.length_append] at hsh
    have hsh2 := short_any _ c4 ((L ++ m).take (L.length - 1)) _ w4 (hB4.take (L.length - 1)) (by rw [List.length_take, List.length_append]; omega)
    rw [List.length_take, List.length_append, Nat.min_eq_left (by omega), List.take_append_of_le_length (by omega), HBK.out.2] at hsh2
    rw [HBK.out.1] at hsh
    have HS1 := Lib.hid hsh
    have HS2 := Lib.hid hsh2
    clear hown3 hown4 hg4 hat4 hB4 hm3 hm hs3 hb3 hsh hsh2 HF2 HF3 hsm HLG HBK
    refine HS1.out.mono ?_
    rintro e w' ⟨rfl, rfl⟩
    go_wp2_with fail
    refine HS2.out.mono ?_
    rintro e w' ⟨rfl, rfl⟩
    go_wp2_with fail
    go_ret
    exact ⟨rfl, HF4⟩
  · go_enter Try.func9, Try.ntmps9
    go_wp2_with fail
    refine (known_any _).mono ?_
    rintro e w1 ⟨rfl, hb1⟩
    have hl1 := hl.below hb1
    have hm1 := hm.below hb1
    go_wp2_with fail
    refine (short_any _ _ _ _ _ hl1 (by omega)).mono ?_
    rintro e w' ⟨rfl, rfl⟩
    have HT := hl1.take (shortL l).2
    have hl11 := (longL_length h4).2
    obtain ⟨L, hL⟩ : ∃ L, longL (shortL l).1 = L := ⟨_, rfl⟩
    have hlg : ∀ W, Calls Try.prog 36 #[.int .u64 (shortL l).1] W (RetBytes 5 L W) := fun W => by
      have := long_any _ W h4
      rw [hL] at this
      exact this
    have HT2 : l.take (shortL l).2 = L := by rw [← hL]; exact h3.symm
    rw [HT2] at HT
    have hLk : L.length = (shortL l).2 := by rw [← HT2, List.length_take]; omega
    clear h3 HT2 hL
    generalize (shortL l).1 = x at *
    generalize (shortL l).2 = k at *
    have d1 : decide ((k : Int) < 0) = false := by rw [decide_eq_false_iff_not]; omega
    have d2 : decide ((10 : Int) < (k : Int)) = false := by rw [decide_eq_false_iff_not]; omega
    have d3 : decide (l.length < k) = false := by rw [decide_eq_false_iff_not]; omega
    have d4 : decide (0 < k) = true := by rw [decide_eq_true_iff]; omega
    have hsz1 := hb1.size
    have hsame : ∀ (W : World) (A1 : Option Addr) (c1 : Nat), Below w1.heap.size w1 W → Bytes W W.heap.size A1 L → Calls Try.prog 21 #[.slice A1 k c1, .slice a0 k cap0] W fun e w' => e = .returned (.bool true) ∧ W = w' := fun W A1 c1 hB h2 => by
      have := same_any A1 a0 c1 cap0 L L _ W h2 (((HT.more hsz1).below hB).more hB.size)
      rw [hLk, decide_eq_true rfl] at this
      exact this
    have HSM := Lib.hid hsame
    have HLG1 := Lib.hid hlg
    have HLK := Lib.hid hLk
    obtain ⟨b0, o0, hA0⟩ : ∃ b o, a0 = some ⟨b, o, none⟩ := by
      obtain ⟨b, o, e, _⟩ := hl.at_ (k := 0) (by omega)
      exact ⟨b, o, e⟩
    subst hA0
    have i1 : (k : Int) ≤ (cap0 : Int) := by omega
    have i2 : (0 : Int) ≤ (k : Int) := by omega
    clear hsame hlg hLk HT
    go_wp2_with fail
    go_region_held3 (fun _w => True) (exact trivial) (first | (go_at_call 36; refine (HLG1.out _).mono ?_; rintro e w2 ⟨A1, c1, rfl, hown1, hb2, hs1⟩; have hB2 := own_bytes hown1 hs1; rw [HLK.out]) | (go_at_call 21; refine (HSM.out _ _ _ ⟨hb2.os, hb2.tape, hb2.output, hb2.size, hb2.block⟩ hB2).mono ?_; rintro e w' ⟨rfl, rfl⟩))
    have HF2 : Below w.heap.size w w2 := hb1.trans ((show Below w1.heap.size w1 w2 from ⟨hb2.os, hb2.tape, hb2.output, hb2.size, hb2.block⟩).mono hsz1)
    clear hown1 hb2 hs1 hB2 d1 d2 d3 d4 i1 i2 HSM HLG1 HLK hl11
    clear hl1 hb1 hm1 hl
    have hll := longL_length hn
    have hback := shortL_long n (show n < two64 from hn) m
    have hcut := shortL_cut n (show n < two64 from hn)
    have hsm := longL_small hn
    obtain ⟨T, hL⟩ : ∃ T, longL n = T := ⟨_, rfl⟩
    have hlong := long_any n w2 hn
    rw [hL] at hll hback hcut hsm hlong
    have HBK := Lib.hid (And.intro hback hcut)
    have HLG := Lib.hid hlong
    clear hback hcut hL hlong
    go_wp2_with fail
    refine HLG.out.mono ?_
    rintro e w3 ⟨A3, c3, rfl, hown3, hb3, hs3⟩
    have HF3 : Below w.heap.size w w3 := HF2.trans (hb3.mono HF2.size)
    have hm3 := hm.below HF3
    have hsz := HF2.size
    have hsz3 := hb3.size
    go_wp2_with (at_builtin; refine wpList_append_at rfl (.tmp 62) (.tmp 63) 30 rfl w2.heap.size 5 i0 _ 1 Try.underlying30 hi0 hz0 hz1 hz2 rfl (.slice A3 T.length c3) T.length (T.map byteV) rfl hown3 w.heap.size a2 m.length cap2 (m.map byteV) rfl (by simp) hm3.1 (bytes_oneCell _) (by unfold maxLen; omega) (by omega) hsz3 ?_; intro A4 c4 w4 hown4 hg4 hat4)
    have HF4 : Below w.heap.size w w4 := below_own HF3 hg4 hown3 hsz hsz3
    rw [← List.map_append] at hown4
    have hB4 := own_bytes hown4 (small_append hs3 hm.2)
    obtain ⟨g, rfl, _, _⟩ := own_pos hown4 (by omega)
    have hc4 := own_cap hown4
    have hsh := short_any _ c4 (T ++ m) _ w4 hB4 (by rw [List.length_append]; omega)
    rw [List.length_append] at hsh
    have hsh2 := short_any _ c4 ((T ++ m).take (T.length - 1)) _ w4 (hB4.take (T.length - 1)) (by rw [List.length_take, List.length_append]; omega)
    rw [List.length_take, List.length_append, Nat.min_eq_left (by omega), List.take_append_of_le_length (by omega), HBK.out.2] at hsh2
    rw [HBK.out.1] at hsh
    have HS1 := Lib.hid hsh
    have HS2 := Lib.hid hsh2
    clear hown3 hown4 hg4 hat4 hB4 hm3 hm hs3 hb3 hsh hsh2 HF2 HF3 hsm HLG HBK
    refine HS1.out.mono ?_
    rintro e w' ⟨rfl, rfl⟩
    go_wp2_with fail
    refine HS2.out.mono ?_
    rintro e w' ⟨rfl, rfl⟩
    go_wp2_with fail
    go_ret
    exact ⟨rfl, HF4⟩
end Go.Proofs.Ytoccmlolgjblcaa
