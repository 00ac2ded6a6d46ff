/- wal's law: known. Conditions: none. -/
import Derived.Test.YtkganajbilnanaaWWalJO
import Derived.Test.YtkganajbilnanaaWWalZ
import Derived.Test.YtkganajbilnanaaWDiskD
import Derived.Test.YtkganajbilnanaaWDiskC
namespace Go.Proofs.Ytkganajbilnanaa
open Go.ChangeShapes Go.WideShapes Go.ChangeAt Go.RowKit
open NumMath
set_option linter.unusedVariables false
set_option linter.unusedSimpArgs false
set_option maxRecDepth 20000

def recB : RecP := ⟨1, 1, 0, 0, ⟨0, 0, false, false, [], []⟩, [], []⟩
theorem fits_recB : recB.Fits := ⟨by decide, by decide, by decide, by decide, ⟨by decide, by decide, (fun x hx => by cases hx), (fun x hx => by cases hx)⟩, (fun x hx => by cases hx), (fun x hx => by cases hx)⟩
theorem recB_at (w : World) : RecAt w w.heap.size recB memZ := ⟨⟨Bytes.nil _ _ _, Bytes.nil _ _ _, Nat.le_refl _, Nat.le_refl _, fits_recB.chg⟩, (fun j hj => absurd hj (by simp [recB])), (fun j hj => absurd hj (by simp [recB])), fits_recB⟩
def D18 : DevP := DevP.new 18 0
theorem newL_18 : newL D18 = ⟨⟨1, 1, 0, 0⟩, 8, 0, [], [], 0⟩ := rfl
theorem encB_len : (encL recB).length = 27 := by decide
theorem app_18 : appP (newL D18) recB 0 = ((1, 0), ⟨⟨1, 1, 0, 0⟩, 8, 0, encL recB, [0], 0⟩) := by
  rw [newL_18]
  unfold appP
  rw [if_neg (by decide), if_neg (by rw [encB_len]; decide)]
  rfl
/-- what known's log opens as -/
theorem open_18 : ∃ C, Inv ⟨⟨1, 1, 0, 0⟩, 8, 0, encL recB, [0], 0⟩ (newD D18) [recB] C := by
  obtain ⟨C, h⟩ := inv_new (a := 18) (by omega) (by omega)
  have := h.append fits_recB 0
  rw [show newL (DevP.new 18 0) = newL D18 from rfl, app_18] at this
  simp only [if_true] at this
  exact ⟨C, this⟩
theorem open_18L (l : List FateP) : opens ((newD D18).crash l) = true ∧ (openL ((newD D18).crash l)).h.base = 1 ∧ (openL ((newD D18).crash l)).stream = [] := by
  obtain ⟨C, h⟩ := open_18
  obtain ⟨h1, j, hj, hm, hR, hL⟩ := (h.crash l).opened
  have hj0 : j = 0 := by
    rcases Nat.eq_zero_or_pos j with z | z
    · exact z
    · exfalso
      have h1 : j = 1 := by have : j ≤ 1 := hj; omega
      subst h1
      have e : offK [recB] 1 = 27 := by decide
      rw [e] at hm
      cases hm
  subst hj0
  refine ⟨h1, by rw [hL], by rw [hL]; rfl⟩
theorem size_18 (l : List FateP) : ((newD D18).crash l).size 0 ≤ 1400 := by
  obtain ⟨C, h⟩ := open_18
  have h1 := (h.crash l).q.length
  have h2 : 8 = (C.length - 2) / 2 := h.strips
  show (if 0 < 2 then (((newD D18).crash l).f 0).length else 0) ≤ _
  rw [if_pos (by omega), h1]
  omega
theorem good_new18 : (DevP.new 18 0).good 0 := DevP.good_new (by omega) (by omega)
theorem good_newD18 : (newD D18).good 19 := by
  unfold newD
  exact sayD_good (N := 18) (makeP_good good_new18 0 18 [])
set_option maxHeartbeats 8000000 in
theorem kn_any (w : World) : Calls Try.prog 9 #[] w fun e w' => e = .returned (.bool true) ∧ Below w.heap.size w w' := by
  have cnew : Calls Try.prog 27 #[.int .i64 18, .int .i64 0] w (NewPost 18 0 w) := new_any 18 0 w
  go_enter Try.func9, Try.ntmps9
  go_wp2_with fail
  refine cnew.mono ?_
  rintro e w1 ⟨h1, -, hb1⟩
  obtain ⟨pd, rfl, hd1⟩ := h1 ⟨⟨by omega, by omega⟩, by omega, by omega⟩
  clear h1 cnew
  obtain ⟨gp, s0, lv0, X0, rfl, -⟩ := id hd1
  have cnl := newl_any (D := D18) hd1 (fun b q => q.2) good_new18 (by omega)
  go_wp2_with fail
  refine cnl.mono ?_
  rintro e w2 (⟨hlt, -⟩ | ⟨hge, gl, rfl, F2, G2, sv2, st2, hL2, hF2, hG2, hO2⟩)
  · exact absurd hlt (by decide)
  have hb2 : Below w.heap.size w w2 := hb1.trans (hO2.below hb1.size fun b q => (q.elim (fun z => z.1) fun z => z.elim))
  have hlo : ∀ b, F2 b ∨ G2 b → w.heap.size ≤ b := fun b q => by
    have := hb1.size
    rcases q with q | q
    · rcases hF2 b q with z | z
      · exact z.1
      · omega
    · rcases hG2 b q with z | z
      · exact z.elim
      · omega
  have cap : Calls Try.prog 13 #[.pointer (some ⟨gl, 0, none⟩), .agg #[.int .u8 1, .int .u32 1, .int .u64 0, .int .u64 0, .int .u32 0, .int .u16 0, .bool false, .bool false, .slice none 0 0, .slice none 0 0, .slice none 0 0, .slice none 0 0], .int .u64 0] w2 fun e w' => e = .returned (.tuple #[.int .u64 1, .int .u16 0]) ∧ LgPost ⟨⟨1, 1, 0, 0⟩, 8, 0, encL recB, [0], 0⟩ (newD D18) F2 G2 gl (.pointer (some ⟨gp, 0, none⟩)) w2 w' := by
    have := append_any hL2 recB memZ w2.heap.size (recB_at w2) (Nat.le_refl _) (by rw [newL_18]; decide) (by rw [newL_18]; decide) (by rw [newL_18]; decide) (by rw [newL_18]; decide) 0 (by decide)
    rw [app_18] at this
    exact this
  clear cnl hL2 hF2 hG2 hO2 hd1 hb1 hge
  go_wp2_with fail
  refine cap.mono ?_
  rintro e w3 ⟨rfl, F3, G3, sv3, st3, hL3, hF3, hG3, hO3⟩
  have hs2 := hb2.size
  have hb3 : Below w.heap.size w w3 := hb2.trans (hO3.below hs2 hlo)
  have hlo3 : ∀ b, F3 b ∨ G3 b → w.heap.size ≤ b := fun b q => by
    rcases q with q | q
    · rcases hF3 b q with z | z
      · exact hlo b (.inl z)
      · omega
    · rcases hG3 b q with z | z
      · exact hlo b (.inr z)
      · omega
  obtain ⟨A3, c3, rfl, hc3, hb33⟩ := hL3.log.bytes
  have cend := end_any hL3.log.blk (by show 1 + (encL recB).length < _; rw [encB_len]; decide)
  have HL3 := Lib.hid hL3
  have HB3 := Lib.hid hb3
  have HLO3 := Lib.hid hlo3
  simp only [encB_len] at cend
  clear cap hb2 hlo hF3 hG3 hO3 hL3 hb3 hlo3 hs2 hc3 hb33
  go_wp2_with fail
  refine cend.mono ?_
  rintro e w4 ⟨rfl, hd4⟩
  have hB4 := hd4.below w3.heap.size
  have hL4 := HL3.out.below hB4
  have crm := Room_any hL4.log.blk (by decide) (by show (encL recB).length ≤ _; rw [encB_len]; decide)
  simp only [encB_len] at crm
  clear cend hd4
  go_wp2_with fail
  refine crm.mono ?_
  rintro e w5 ⟨rfl, hd5⟩
  have hB5 := hd5.below w4.heap.size
  have hL5 := hL4.below hB5
  have hb5 : Below w.heap.size w w5 := (HB3.out.trans (hB4.mono HB3.out.size)).trans (hB5.mono (Nat.le_trans HB3.out.size hB4.size))
  have ccr : Calls Try.prog 14 #[.pointer (some ⟨gp, 0, none⟩), .slice none 0 0] w5 fun e w' => e = .returned (.tuple #[]) ∧ DevPost ((newD D18).crash []) F3 (.pointer (some ⟨gp, 0, none⟩)) w5 w' := crash_any hL5.dev hL5.hiF good_newD18 (by omega) none 0 [] ⟨At.nil _ _ _, fun x hx => by cases hx⟩ (fun b o e => by cases e) (by simp)
  clear crm hd5 hL4
  have HL5 := Lib.hid hL5
  have HB5 := Lib.hid hb5
  clear hL5 hb5 hB4 hB5
  go_wp2_with fail
  refine ccr.mono ?_
  rintro e w6 ⟨rfl, hp6⟩
  have hF6 : ∀ b, grow F3 w5 w6 b → b < w6.heap.size := fun b q => q.elim (fun z => Nat.lt_of_lt_of_le (HL5.out.hiF b z) hp6.2.size) fun z => z.2
  have hlo6 : ∀ b, grow F3 w5 w6 b → w.heap.size ≤ b := fun b q => q.elim (fun z => HLO3.out b (.inl z)) fun z => by have := HB5.out.size; omega
  have hb6 : Below w.heap.size w w6 := HB5.out.trans (hp6.2.below HB5.out.size fun b q => HLO3.out b (.inl q))
  have cop := open_any hp6.1 hF6 (good_newD18.crash []) (by omega) (size_18 [])
  obtain ⟨hop, hbs, hst⟩ := open_18L []
  have HB6 := Lib.hid hb6
  generalize (newD D18).crash [] = D6 at *
  clear ccr hp6 hF6 HL5 hb6
  go_wp2_with fail
  refine cop.mono ?_
  rintro e w7 (⟨hno, -⟩ | ⟨-, -, gm, rfl, F7, G7, sv7, st7, hL7, -, -, hO7⟩)
  · rw [hno] at hop
    cases hop
  have hb7 : Below w.heap.size w w7 := HB6.out.trans (hO7.below HB6.out.size fun b q => q.elim (hlo6 b) fun z => z.elim)
  generalize openL D6 = L7 at *
  obtain ⟨⟨st7a, bs7, ck7, ar7⟩, sp7, sl7, sm7, ss7, ls7⟩ := L7
  simp only at hbs hst
  subst hbs
  subst hst
  obtain ⟨A7, c7, rfl, -, -⟩ := hL7.log.bytes
  have cen : Calls Try.prog 12 #[.pointer (some ⟨gm, 0, none⟩)] w7 fun e w' => e = .returned (.int .u64 1) ∧ Drew w7 w' := end_any hL7.log.blk (by show 1 + 0 < _; decide)
  have HL7 := Lib.hid hL7
  have HB7 := Lib.hid hb7
  clear cop hL7 hO7 hb7 hlo6
  go_wp2_with fail
  refine cen.mono ?_
  rintro e w8 ⟨rfl, hd8⟩
  have hB8 := hd8.below w7.heap.size
  have cba : Calls Try.prog 21 #[.pointer (some ⟨gm, 0, none⟩)] w8 fun e w' => e = .returned (.int .u64 1) ∧ w8 = w' := base_any (HL7.out.below hB8).log.blk
  have HB8 : Hid (Below w.heap.size w w8) := Lib.hid (HB7.out.trans (hB8.mono HB7.out.size))
  clear cen hd8 hB8
  go_wp2_with fail
  refine cba.mono ?_
  rintro e w9 ⟨rfl, rfl⟩
  clear cba
  go_wp2
  go_ret
  exact ⟨rfl, HB8.out⟩
end Go.Proofs.Ytkganajbilnanaa
