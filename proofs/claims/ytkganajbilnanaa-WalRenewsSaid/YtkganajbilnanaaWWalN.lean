/- wal: New. Conditions: the device lies there. -/
import Derived.Test.YtkganajbilnanaaWWalF
namespace Go.Proofs.Ytkganajbilnanaa
open Go.ChangeShapes Go.WideShapes Go.ChangeAt Go.RowKit
open NumMath
set_option linter.unusedVariables false
set_option linter.unusedSimpArgs false
set_option maxRecDepth 20000

/-- a new log, ahead of its first header -/
def logN (strips : Nat) : LogP := ⟨⟨0, 1, 0, 0⟩, strips, 1, [], [], 0⟩
def newL (D : DevP) : LogP := sayL (logN ((D.size 0 - 2) / 2))
def newD (D : DevP) : DevP := sayD (logN ((D.size 0 - 2) / 2)) (makeP D 0 (D.size 0) [])
def NewLPost (D : DevP) (F : Nat → Prop) (pd : Value) (w : World) (e : Ending) (w' : World) : Prop :=
  (D.size 0 < 18 ∧ e = .returned (.tuple #[.pointer none, .int .u16 82]) ∧ Below w.heap.size w w') ∨
    (18 ≤ D.size 0 ∧ ∃ gl, e = .returned (.tuple #[.pointer (some ⟨gl, 0, none⟩), .int .u16 0]) ∧ LgPost (newL D) (newD D) F (fun _ => False) gl pd w w')
set_option maxHeartbeats 8000000 in
theorem newl_any {D : DevP} {w : World} {F : Nat → Prop} {pd : Value} (h : IsDev D w F pd) (hF : ∀ b, F b → b < w.heap.size) {N : Nat} (hG : D.good N) (hN : N + 5000 ≤ 100000) :
    Calls Try.prog 28 #[pd] w (NewLPost D F pd w) := by
  have hs : D.size 0 ≤ 4096 := by
    have := (hG 0 (by omega)).1
    unfold DevP.size
    exact this
  have con := on_any h hs
  obtain ⟨gp, s0, lv0, X0, rfl, -⟩ := id h
  go_enter Try.func28, Try.ntmps28
  go_wp2_with fail
  refine con.mono ?_
  rintro e w2 ⟨hb2, (⟨hlt, rfl⟩ | ⟨hge, rfl, hl⟩)⟩
  · have F1 : Hid (NewLPost D F (.pointer (some ⟨gp, 0, none⟩)) w (.returned (.tuple #[.pointer none, .int .u16 82])) w2) := Lib.hid (.inl ⟨hlt, rfl, hb2⟩)
    clear con hb2 hlt h hF hG hs
    go_wp2
    go_ret2
    exact F1.out
  · obtain ⟨gl, hgl⟩ : ∃ gl, w.heap.size = gl := ⟨_, rfl⟩
    rw [hgl] at hl
    rw [hgl]
    obtain ⟨n, hn⟩ : ∃ n, D.size 0 = n := ⟨_, rfl⟩
    rw [hn] at hl hs hge
    have hL2 : Lg (logZ ((n - 2) / 2)) D w2 F (fun b => b = gl) gl (.pointer (some ⟨gp, 0, none⟩)) (.slice none 0 0) (.slice none 0 0) := by
      refine ⟨h.below hb2, hl, fun b q e => by have := hF b q; omega, fun b q => Nat.lt_of_lt_of_le (hF b q) hb2.size, fun b e => by rw [e]; exact hl.blk.lt⟩
    have csz := sizes_any hL2.dev 0 (by omega)
    rw [hn] at csz
    have cmk := make_any hL2.dev hL2.hiF hG hL2.log.blk (fun q => hL2.dis gl q rfl) 0 n (by omega) (by omega) (by omega) none 0 [] [] (fun j hj => absurd hj (by simp)) (Outs.nil _ _) (by simp) (fun l hl => by cases hl)
    have FIN : Hid (∀ w5 w6 w7, DevPost (makeP D 0 n []) F (.pointer (some ⟨gp, 0, none⟩)) w2 w5 → Lg (logN ((n - 2) / 2)) (makeP D 0 n []) w6 (grow F w2 w5) (fun b => b = gl) gl (.pointer (some ⟨gp, 0, none⟩)) (.slice none 0 0) (.slice none 0 0) → Only (fun b => b = gl) w5 w6 →
        LgPost (sayL (logN ((n - 2) / 2))) (sayD (logN ((n - 2) / 2)) (makeP D 0 n [])) (grow F w2 w5) (fun b => b = gl) gl (.pointer (some ⟨gp, 0, none⟩)) w6 w7 → NewLPost D F (.pointer (some ⟨gp, 0, none⟩)) w (.returned (.tuple #[.pointer (some ⟨gl, 0, none⟩), .int .u16 0])) w7) := Lib.hid fun w5 w6 w7 h1 h2 h3 h4 => by
      refine .inr ⟨by rw [hn]; exact hge, gl, rfl, ?_⟩
      unfold newL newD
      rw [hn]
      have hlt : gl < w2.heap.size := hl.blk.lt
      have q1 : Only F w w5 := (Only.of_below hb2 F).trans h1.2 fun b z => .inl z
      have q2 : Only (fun b => F b ∨ False) w w6 := (q1.mono fun b z => .inl (.inl z)).trans h3 fun b z => .inr (by omega)
      have s1 := h3.size
      have s2 := h1.2.size
      have s3 := hb2.size
      refine LgPost.trans (F' := grow F w2 w5) (G' := fun b => b = gl) (fun b z => ?_) (fun b z => .inr ⟨by omega, by omega⟩) q2 h4
      rcases z with z | z
      · exact .inl z
      · exact .inr ⟨by omega, by omega⟩
    have HL2 := Lib.hid hL2
    have HMG : Hid ((makeP D 0 n []).good (N + n)) := Lib.hid (makeP_good hG 0 n [])
    clear con hL2 h hF hG hl hn
    go_wp2_with fail
    refine csz.mono ?_
    rintro e w4 ⟨rfl, rfl⟩
    clear csz
    go_wp2_with fail
    refine cmk.mono ?_
    rintro e w5 ⟨rfl, hp5⟩
    have hL5 := HL2.out.devPost hp5
    have k5 := hL5.log.blk
    have c1 : w5.cell? ⟨gl, 1, none⟩ = some (.int .u64 0) := k5.cell 1
    have c6 : w5.cell? ⟨gl, 6, none⟩ = some (.int .i64 0) := k5.cell 6
    have z1 : w5.frozen? ⟨gl, 1, none⟩ = false := k5.frozen 1
    have z6 : w5.frozen? ⟨gl, 6, none⟩ = false := k5.frozen 6
    have k6 : Blk ((w5.setCell ⟨gl, 1, none⟩ (.int .u64 1)).setCell ⟨gl, 6, none⟩ (.int .i64 1)) gl 75 (logV (logN ((n - 2) / 2)).h (.pointer (some ⟨gp, 0, none⟩)) ((n - 2) / 2) 1 (.slice none 0 0) (.slice none 0 0) 0) := (k5.set_ 1 _).set_ 6 _
    have o6 : Only (fun b => b = gl) w5 ((w5.setCell ⟨gl, 1, none⟩ (.int .u64 1)).setCell ⟨gl, 6, none⟩ (.int .i64 1)) := ((Only.refl (fun b => b = gl) w5).setCell (p := ⟨gl, 1, none⟩) (.inl rfl) _).setCell (p := ⟨gl, 6, none⟩) (.inl rfl) _
    have hL6 := hL5.box (L' := logN ((n - 2) / 2)) o6 k6 rfl rfl
    have H6 := Lib.hid (And.intro hL6 o6)
    have H5 := Lib.hid hp5
    clear cmk hL5 k5 k6 o6 hL6 hp5 HL2
    go_upto_region 6 with fail
    generalize World.setCell _ _ _ = w6 at *
    have csy := say_any H6.out.1 (show HeadP.Fits ⟨0, 1, 0, 0⟩ from ⟨by decide, by decide, by decide, by decide⟩) (Nat.le_refl _) HMG.out (by omega)
    go_wp2_with fail
    refine csy.mono ?_
    rintro e w7 ⟨rfl, hp7⟩
    have F1 := Lib.hid (FIN.out _ _ _ H5.out H6.out.1 H6.out.2 hp7)
    clear csy hp7 FIN H5 H6 HMG
    go_wp2
    go_ret2
    exact F1.out
end Go.Proofs.Ytkganajbilnanaa
