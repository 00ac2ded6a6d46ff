/- wal: Mark, Renew. Conditions: the log lies there. -/
import Derived.Test.YtkganajbilnanaaWWalUA
namespace Go.Proofs.Ytkganajbilnanaa
open Go.ChangeShapes Go.WideShapes Go.ChangeAt Go.RowKit
open NumMath
set_option linter.unusedVariables false
set_option linter.unusedSimpArgs false
set_option maxRecDepth 20000

def topN : Nat := 18446744073709551615
def markM (L : LogP) (lsn : Nat) : LogP := { flushL L topN with h := { (flushL L topN).h with check := lsn } }
def markL (L : LogP) (lsn : Nat) : LogP := sayL (markM L lsn)
def markD (L : LogP) (D : DevP) (lsn : Nat) : DevP := sayD (markM L lsn) (flushD L D topN)
def renewM (L : LogP) : LogP := ⟨⟨L.h.stamp, L.h.base + L.stream.length, 0, 1 - L.h.area⟩, L.strips, L.slot, [], [], 0⟩
def renewL (L : LogP) : LogP := sayL (renewM L)
def renewD (L : LogP) (D : DevP) : DevP := sayD (renewM L) (makeP (flushD L D topN) (firstP L (1 - L.h.area)) L.strips [])
theorem flushL_h (L : LogP) (lsn : Nat) : (flushL L lsn).h = L.h := by unfold flushL; split <;> rfl
theorem flushL_slot (L : LogP) (lsn : Nat) : (flushL L lsn).slot = L.slot := by unfold flushL; split <;> rfl
theorem flushL_strips (L : LogP) (lsn : Nat) : (flushL L lsn).strips = L.strips := by unfold flushL; split <;> rfl
theorem flushL_stream (L : LogP) (lsn : Nat) : (flushL L lsn).stream = L.stream := by unfold flushL; split <;> rfl
theorem flushL_starts (L : LogP) (lsn : Nat) : (flushL L lsn).starts = L.starts := by unfold flushL; split <;> rfl
theorem flushL_lasts (L : LogP) (lsn : Nat) : (flushL L lsn).lasts = max L.lasts (toP L lsn) := by
  unfold flushL
  split
  · omega
  · show toP L lsn = _
    omega
theorem flushL_ok {L : LogP} (h : L.ok) (lsn : Nat) : (flushL L lsn).ok := by
  refine ⟨?_, ?_, ?_, ?_, ?_, ?_, ?_, ?_, ?_, ?_⟩
  · rw [flushL_strips]; exact h.strips
  · rw [flushL_h]; exact h.fits
  · rw [flushL_h]; exact h.area
  · rw [flushL_slot]; exact h.slot
  · rw [flushL_strips, flushL_stream]; exact h.len
  · rw [flushL_lasts, flushL_stream]
    have := h.lasts
    have := toP_le h lsn
    omega
  · rw [flushL_h, flushL_stream]; exact h.base
  · rw [flushL_starts]; exact h.mono
  · rw [flushL_starts]; exact h.cnt
  · rw [flushL_starts, flushL_stream]; exact h.inn
theorem flushS_length {L : LogP} (h : L.ok) (t : Nat) : (flushS L t).length ≤ 701 := by
  unfold flushS
  rw [List.length_drop, layOf_length']
  have h1 := h.len
  have h2 := h.strips
  have h3 : (L.stream.take t).length ≤ L.stream.length := by rw [List.length_take]; omega
  unfold chunks
  omega
theorem flushD_good {L : LogP} (h : L.ok) {D : DevP} {N : Nat} (hG : D.good N) (lsn : Nat) : (flushD L D lsn).good (N + 701) := by
  unfold flushD
  split
  · exact hG.mono (by omega)
  · exact ((wrN_good hG _ _ _).sync 0).mono (by have := flushS_length h (toP L lsn); omega)
set_option maxHeartbeats 8000000 in
theorem mark_any {L : LogP} {D : DevP} {w : World} {F G : Nat → Prop} {gl : Nat} {pd sv st : Value} (h : Lg L D w F G gl pd sv st) (hk : L.ok) {N : Nat} (hG : D.good N) (hN : N + 6000 ≤ 100000) (lsn : Nat) (hlsn : lsn < 18446744073709551616) :
    Calls Try.prog 26 #[.pointer (some ⟨gl, 0, none⟩), .int .u64 (lsn : Nat)] w fun e w' => e = .returned (.tuple #[]) ∧ LgPost (markL L lsn) (markD L D lsn) F G gl pd w w' := by
  have cfl : Calls Try.prog 46 #[.pointer (some ⟨gl, 0, none⟩), .int .u64 18446744073709551615] w fun e w' => e = .returned (.tuple #[]) ∧ LgPost (flushL L topN) (flushD L D topN) F G gl pd w w' := flush_any h hk hG (by omega) topN (by decide)
  have hgd := flushD_good hk hG topN
  have hok := flushL_ok hk topN
  have hM : markM L lsn = { flushL L topN with h := { (flushL L topN).h with check := lsn } } := rfl
  have hL : markL L lsn = sayL (markM L lsn) := rfl
  have hD : markD L D lsn = sayD (markM L lsn) (flushD L D topN) := rfl
  rw [hL, hD]
  generalize markM L lsn = LM at *
  generalize flushL L topN = L1 at *
  generalize flushD L D topN = D1 at *
  have HM := Lib.hid hM
  clear hL hD hk hG h hM
  go_enter Try.func26, Try.ntmps26
  go_wp2_with fail
  refine cfl.mono ?_
  rintro e w2 ⟨rfl, F1, G1, sv1, st1, hL1, hF1, hG1, hO1⟩
  have k1 := hL1.log.blk
  have c2 : w2.cell? ⟨gl, 2, none⟩ = some (.int .u64 (L1.h.check : Nat)) := k1.cell 2
  have z2 : w2.frozen? ⟨gl, 2, none⟩ = false := k1.frozen 2
  have oW : Only (fun b => b = gl) w2 (w2.setCell ⟨gl, 2, none⟩ (.int .u64 (lsn : Nat))) := (Only.refl (fun b => b = gl) w2).setCell (p := ⟨gl, 2, none⟩) (.inl rfl) _
  have hLW : Lg LM D1 (w2.setCell ⟨gl, 2, none⟩ (.int .u64 (lsn : Nat))) F1 G1 gl pd sv1 st1 := by
    rw [HM.out]
    exact hL1.box oW (k1.set_ 2 _) rfl rfl
  have hfit : LM.h.Fits := by rw [HM.out]; exact ⟨hok.fits.1, hok.fits.2.1, hlsn, hok.fits.2.2.2⟩
  have hslot : LM.slot ≤ 1 := by rw [HM.out]; exact hok.slot
  have HLW := Lib.hid hLW
  have FIN : Hid (∀ W, LgPost (sayL LM) (sayD LM D1) F1 G1 gl pd (w2.setCell ⟨gl, 2, none⟩ (.int .u64 (lsn : Nat))) W → LgPost (sayL LM) (sayD LM D1) F G gl pd w W) := Lib.hid fun W hp => by
    refine LgPost.trans hF1 hG1 hO1 ?_
    refine LgPost.trans (F' := F1) (G' := G1) (fun b q => .inl q) (fun b q => .inl q) (oW.mono fun b e => .inl (.inr (by rw [e]; exact hL1.log.inG))) hp
  clear cfl hL1 hF1 hG1 hO1 k1 oW hLW
  go_upto_region 2 with fail
  generalize World.setCell _ _ _ = W at *
  have csy := say_any HLW.out hfit hslot hgd (by omega)
  go_wp2_with fail
  refine csy.mono ?_
  rintro e w3 ⟨rfl, hp⟩
  have H := Lib.hid (FIN.out w3 hp)
  clear hp FIN csy HLW
  go_wp2
  go_end0
  exact ⟨rfl, H.out⟩
end Go.Proofs.Ytkganajbilnanaa
