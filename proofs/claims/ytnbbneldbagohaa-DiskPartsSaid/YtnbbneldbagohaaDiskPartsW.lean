/- The law DiskParts: the walk. Conditions: none. -/
import Derived.Test.YtnbbneldbagohaaDiskParts
namespace Go.Proofs.Ytnbbneldbagohaa
open Go.ChangeShapes Go.WideShapes Go.ChangeAt Go.RowKit
set_option linter.unusedVariables false
set_option linter.unusedSimpArgs false
set_option maxRecDepth 20000

def nth (l : List Nat) (j : Nat) : Nat := l[j]?.getD 0
theorem nth_eq {l : List Nat} {j : Nat} (h : j < l.length) : nth l j = l[j] := by unfold nth; rw [List.getElem?_eq_getElem h]; rfl
def TrueBelow (w : World) (e : Ending) (w' : World) : Prop := e = .returned (.bool true) ∧ Below w.heap.size w w'
set_option maxHeartbeats 4000000 in
theorem parts_any (A : Option Addr) (c : Nat) (L : List Value) (ls : List (List Nat)) (w : World) (hA : At w w.heap.size A L) (hR : Reads w w.heap.size L ls) (x : FateP) (hx : x.file < 256) :
    Calls Try.prog 3 #[.slice A ls.length c, .agg #[.int .u8 x.file, .int .i64 x.sector, .int .i64 x.keep, .int .i64 x.torn]] w (TrueBelow w) := by
  obtain ⟨fl, st, kp, tn⟩ := x
  have a0 := (Below.refl w.heap.size w).alloc (Nat.le_refl _) (.cells #[.int .u8 fl, .int .i64 st, .int .i64 kp, .int .i64 tn] 24)
  have k0 := Blk.new w 24 #[.int .u8 fl, .int .i64 st, .int .i64 kp, .int .i64 tn]
  rcases Nat.lt_or_ge 20 ls.length with hgt | hle
  · have t1 : decide ((20 : Int) < (ls.length : Int)) = true := by rw [decide_eq_true_iff]; omega
    go_enter Try.func3, Try.ntmps3
    go_wp2_with fail
    refine (known_any _).mono ?_
    rintro e w1 ⟨rfl, b1⟩
    have b1' := a0.trans (b1.mono a0.size)
    clear b1 a0 k0
    go_wp2
    go_ret
    exact ⟨rfl, b1'⟩
  · have t1 : decide ((20 : Int) < (ls.length : Int)) = false := by rw [decide_eq_false_iff_not]; omega
    obtain ⟨i0, hi0, hz0, hz1, hz2⟩ := info_parts row_info
    go_enter Try.func3, Try.ntmps3
    go_wp2_with fail
    refine (known_any _).mono ?_
    rintro e w1 ⟨rfl, b1⟩
    have bw1 := a0.trans (b1.mono a0.size)
    have k1 := k0.below b1 k0.lt
    clear b1 a0 k0
    go_wp2_with fail
    refine (new_any 1 0 w1).mono ?_
    rintro e w2 ⟨h2, -, b2⟩
    obtain ⟨p, rfl, hd⟩ := h2 ⟨⟨by omega, by omega⟩, ⟨by omega, by omega⟩⟩
    have hd2 := Dv.start (w0 := w1) hd (Nat.le_refl _)
    rw [show DevP.new (1 : Int).toNat (0 : Int).toNat = pdev [] from pdev_zero] at hd2
    have hF2 : ∀ b, (fun x => w1.heap.size ≤ x ∧ x < w2.heap.size) b → b < w2.heap.size := fun b q => q.2
    generalize (fun x => w1.heap.size ≤ x ∧ x < w2.heap.size) = F2 at *
    have k2 := k1.below b2 k1.lt
    have hk1 := k1.lt
    clear h2 hd hF2 k1
    obtain ⟨gp, s, lv, X, rfl, -⟩ := hd2.dev
    have bw2 := bw1.trans (b2.mono bw1.size)
    go_wp2_with fail
    refine (full_any none 0 [] 0 w2 (Bytes.nil _ _ _) (Nat.zero_le _)).mono ?_
    rintro e w3 ⟨A3, c3, rfl, o3, b3, s3⟩
    have hz : fullL [] = zer := rfl
    rw [hz] at o3 s3 ⊢
    rw [zer_length] at o3 ⊢
    have hd3 := hd2.below b3
    have x3 := OutT.own (F := F2) o3 zer_length s3 hd2.hi
    have k3 := k2.below b3 k2.lt
    have bw3 := bw2.trans (b3.mono bw2.size)
    have bw13 := b2.trans (b3.mono b2.size)
    clear hd2 k2 b3 o3 s3 bw2 b2
    have r0 : (w3.alloc (.cells #[.slice A3 128 c3] 28)).ownsRow w3.heap.size 28 1 (.slice (some ⟨w3.heap.size, 0, none⟩) 1 1) 1 [.slice A3 128 c3] := ⟨rfl, .inr ⟨w3.heap.size, 1, #[.slice A3 128 c3], rfl, Nat.le_refl _, heap_alloc_new w3 _, Nat.le_refl _, by unfold maxLen; omega, rfl, rfl⟩⟩
    have a4 := (Below.refl w3.heap.size w3).alloc (Nat.le_refl _) (.cells #[.slice A3 128 c3] 28)
    have hs4 : (w3.alloc (.cells #[.slice A3 128 c3] 28)).heap.size = w3.heap.size + 1 := World.size_alloc _ _
    have d4 := hd3.below a4
    have x4 : Outs (w3.alloc (.cells #[.slice A3 128 c3] 28)) F2 [.slice A3 128 c3] [zer] := (Outs.nil _ _).snoc (x3.below a4)
    have bw4 := bw3.trans (a4.mono bw3.size)
    have k4 := k3.below a4 k3.lt
    have n4 : ∀ b, (Value.slice (some ⟨w3.heap.size, 0, none⟩) 1 1).ownBlock = some b → ¬ F2 b := fun b e z => by
      have e' : w3.heap.size = b := by simpa [Value.ownBlock] using e
      have := hd3.hi b z
      omega
    clear x3 hd3 a4 bw3 k3
    have hw13 := bw13.size
    clear bw13
    go_wp2_with fail
    generalize World.alloc w3 _ = w4 at *
    obtain ⟨b3, hb3⟩ : ∃ b, w3.heap.size = b := ⟨_, rfl⟩
    rw [hb3] at r0 n4 hs4 hw13 ⊢
    clear hb3 w3
    go_loopw [6, 7, 8] (fun v i _ wr => ∃ (k : Nat) (F : Nat → Prop) (Lr : List Value), k ≤ ls.length ∧ i = .int .i64 k ∧ wr.ownsRow b3 28 1 v (k + 1) Lr ∧ (∀ b, v.ownBlock = some b → ¬ F b) ∧ Outs wr F Lr (zer :: (ls.take k).map fullL) ∧ Dv (pdev ((ls.take k).map fullL)) w1 wr F (.pointer (some ⟨gp, 0, none⟩)) ∧ Blk wr w.heap.size 24 #[.int .u8 fl, .int .i64 st, .int .i64 kp, .int .i64 tn] ∧ Below w.heap.size w wr ∧ b3 ≤ wr.heap.size) (fun _ i _ _ => ls.length - (intOf i).toNat)
    case atStart => exact ⟨0, F2, _, by omega, rfl, r0, n4, x4, d4, k4, bw4, by omega⟩
    case round =>
      clear r0 n4 x4 d4 k4 bw4 hs4
      obtain ⟨k, F, Lr, hk, rfl, hown, hnF, hOut, hD, hf, hb, hb3⟩ := hrel
      obtain ⟨A0, c0, rfl, -, -⟩ := own_form hown
      rcases Nat.lt_or_ge k ls.length with hlt | hge
      · have e1 : decide ((k : Int) < (ls.length : Int)) = true := by rw [decide_eq_true_iff]; omega
        have e2 : (0 : Int) ≤ (k : Int) := by omega
        have e3 : (k : Int) < (ls.length : Int) := by omega
        obtain ⟨b, o, A', c', rfl, hbw, q0, -, y0⟩ := reads_at (hA.below hb) (hR.below hb) hlt
        by_cases h200 : ls[k].length ≤ 200
        · have e4 : decide ((200 : Int) < (ls[k].length : Int)) = false := by rw [decide_eq_false_iff_not]; omega
          have htk : (ls.take (k + 1)).map fullL = (ls.take k).map fullL ++ [fullL ls[k]] := by rw [List.take_succ_eq_append_getElem hlt, List.map_append]; rfl
          have HTK := Lib.hid htk
          clear htk
          generalize ls[k] = fr at *
          have hwr := hb.size
          have hw1r := hD.lo
          go_wp2_with fail
          refine (full_any A' c' fr w.heap.size wr y0 hwr).mono ?_
          rintro e w5 ⟨A5, c5, rfl, o5, b5, s5⟩
          have x5 := OutT.own (F := F) o5 rfl s5 hD.hi
          have hD5 := hD.below b5
          have hO5 := hOut.below b5
          have hr5 := kept_below b5 hown
          have hf5 := hf.below b5 hf.lt
          have hb5 := hb.trans (b5.mono hwr)
          have hz5 := b5.size
          clear o5 b5 s5 hown hOut hD hf hb y0 q0
          rw [fullL_length] at x5 ⊢
          have hws : ∀ l ∈ (ls.take k).map fullL, l.length = 128 := fun l hl => by
            obtain ⟨y, _, rfl⟩ := List.mem_map.1 hl
            exact fullL_length y
          have hfl := fullL_length fr
          have hwr2 := pdev_write ((ls.take k).map fullL) (fullL fr) hfl
          have hgd := pdev_good ((ls.take k).map fullL) hws (N := 20) (by simp; omega)
          rw [← HTK.out] at hwr2
          generalize (ls.take k).map fullL = ws at *
          generalize fullL fr = l5 at *
          obtain ⟨A6, c6, e6, -, xb⟩ := x5.bytes
          rw [hfl] at e6
          injection e6 with e61 e62 e63
          subst e61
          subst e63
          have hwc := write_any hD5.dev hD5.hi hgd (by omega) 0 (by omega) 0 A5 c5 l5 xb
          rw [hwr2, hfl] at hwc
          go_wp2_with fail
          refine hwc.mono ?_
          rintro e w6 ⟨rfl, hp6⟩
          obtain ⟨hD6, b6⟩ := hD5.post (by omega) hp6
          have hO6 := hO5.post hp6.2
          have x6 := x5.post hp6.2
          have hr6 := hp6.2.own hr5 hnF
          have hf6 := hf5.below b6 hk1
          have hb6 := hb5.trans (b6.mono (by omega))
          have hz6 := hp6.2.size
          have hn6 : ∀ b, (Value.slice A0 (k + 1) c0).ownBlock = some b → ¬ grow F w5 w6 b := fun b e z => z.elim (hnF b e) fun y => by
            have := (hr5.lt b e).2
            omega
          clear hD5 hO5 x5 hr5 hf5 hb5 hp6 xb hwc hnF hws hgd hwr2
          generalize grow F w5 w6 = F6 at *
          go_wp2_with (at_builtin; refine wpList_append_at2 rfl _ _ 22 22 rfl b3 28 i0 _ 24 Try.underlying22 Try.underlying22 hi0 hz0 hz1 hz2 rfl (.slice A0 (k + 1) c0) (k + 1) Lr rfl (hr6.alloc _) (w6.heap.size + 1) (some ⟨w6.heap.size, 0, none⟩) 1 1 [.slice A5 128 c5] rfl rfl (At.new w6 [.slice A5 128 c5] 28 (0, 0)) (by simp [Value.oneCell']) (by unfold maxLen; omega) (by omega) (by rw [World.size_alloc]; omega) ?_; intro A7 c7 w7 hown7 hg7 hat7; have ho7 := Lib.hid hown7; clear hown7)
          go_roundw
          case rel =>
            have ag := (Below.refl w6.heap.size w6).alloc (Nat.le_refl _) (.cells #[.slice A5 128 c5] 28)
            have hr6a := kept_below ag hr6
            have hsa : (w6.alloc (.cells #[.slice A5 128 c5] 28)).heap.size = w6.heap.size + 1 := World.size_alloc _ _
            have hO7 := ((hO6.snoc x6).below ag).imp fun u l q => q.grown hr6a (by decide) hg7
            have hbb : Below b3 w6 w7 := below_own ((Below.refl _ _).alloc (by omega) _) hg7 hr6a (Nat.le_refl _) (by omega)
            have hog : Only (fun b => (Value.slice A0 (k + 1) c0).ownBlock = some b) w6 w7 := (Only.of_below ag (fun b => (Value.slice A0 (k + 1) c0).ownBlock = some b)).trans (Only.of_grown hg7 fun b e => .inl e) fun b q => .inl q
            refine ⟨k + 1, F6, _, by omega, by go_num, ho7.out, ?_, ?_, ?_, ?_, hb6.trans (hbb.mono (by omega)), by have := hg7.size; omega⟩
            · intro b e z
              rcases hat7 with q | q
              · exact hn6 b (q.symm.trans e) z
              · rw [q] at e
                injection e with e
                have := hD6.hi b z
                omega
            · rw [HTK.out]
              exact hO7
            · exact ⟨hD6.dev.only hog fun b z q => hn6 b q z, fun b z => Nat.lt_of_lt_of_le (hD6.hi b z) (by have := hg7.size; omega), hD6.lo⟩
            · exact hf6.below hbb (by omega)
          case measure => simp [intOf]; omega
        · have e4 : decide ((200 : Int) < (ls[k].length : Int)) = true := by rw [decide_eq_true_iff]; omega
          clear hown hOut hD hf y0
          generalize ls[k] = fr at *
          go_wp2
          go_ret
          exact ⟨rfl, hb⟩
      · obtain rfl : k = ls.length := by omega
        have e1 : decide ((ls.length : Int) < (ls.length : Int)) = false := by rw [decide_eq_false_iff_not]; omega
        rw [List.take_length] at hOut hD
        have hwsl : (ls.map fullL).length = ls.length := List.length_map ..
        have hws : ∀ l ∈ ls.map fullL, l.length = 128 := fun l hl => by
          obtain ⟨y, _, rfl⟩ := List.mem_map.1 hl
          exact fullL_length y
        generalize ls.map fullL = ws at *
        have c0' := hf.cell 0
        have c1' := hf.cell 1
        have f0' := hf.frozen 0
        have f1' := hf.frozen 1
        have hf2 := (hf.set_ 0 (.int .u8 0)).set_ 1 (.int .i64 0)
        have ho2 : Only (fun b => b = w.heap.size) wr ((wr.setCell ⟨w.heap.size, 0, none⟩ (.int .u8 0)).setCell ⟨w.heap.size, 1, none⟩ (.int .i64 0)) := ((Only.refl (fun b => b = w.heap.size) wr).setCell (p := ⟨w.heap.size, 0, none⟩) (.inl rfl) _).setCell (p := ⟨w.heap.size, 1, none⟩) (.inl rfl) _
        have hO2 := hOut.imp fun u l q => Txt.only q ho2 fun b _ hu e => by subst e; exact absurd (hu.uniq' hf.ty) (by decide)
        have hr2 := ho2.own hown fun b e q => by subst q; exact absurd ((own_ty hown e).uniq hf.ty) (by decide)
        have hD2 : Dv (pdev ws) w1 ((wr.setCell ⟨w.heap.size, 0, none⟩ (.int .u8 0)).setCell ⟨w.heap.size, 1, none⟩ (.int .i64 0)) F (.pointer (some ⟨gp, 0, none⟩)) := ⟨hD.dev.only ho2 fun b z e => by subst e; have := hD.lo _ z; omega, fun b z => Nat.lt_of_lt_of_le (hD.hi b z) ho2.size, hD.lo⟩
        have hb2 : Below w.heap.size w ((wr.setCell ⟨w.heap.size, 0, none⟩ (.int .u8 0)).setCell ⟨w.heap.size, 1, none⟩ (.int .i64 0)) := (hb.setCell (by exact Nat.le_refl _) _).setCell (by exact Nat.le_refl _) _
        have hz2 := ho2.size
        have HWS : Hid (((wr.setCell ⟨w.heap.size, 0, none⟩ (.int .u8 0)).setCell ⟨w.heap.size, 1, none⟩ (.int .i64 0)).heap.size = wr.heap.size) := by show _ = _; simp [World.setCell]
        simp only [List.setIfInBounds_toArray, List.set_cons_succ, List.set_cons_zero] at hf2
        clear hOut hown hD hf hb ho2
        have g2 := hf2.cell 2
        have g3 := hf2.cell 3
        go_wp2_with fail
        generalize World.setCell _ _ _ = W2 at *
        have hfa := FatesAt.new W2 [⟨0, 0, kp, tn⟩] (fun x hx => by simp at hx; subst hx; simp)
        have a7 := (Below.refl W2.heap.size W2).alloc (Nat.le_refl _) (.cells (List.flatMap fateCells [⟨0, 0, kp, tn⟩]).toArray 24)
        have hsz7 : (W2.alloc (.cells (List.flatMap fateCells [⟨0, 0, kp, tn⟩]).toArray 24)).heap.size = W2.heap.size + 1 := World.size_alloc _ _
        have hfa' : FatesAt (W2.alloc (.cells (List.flatMap fateCells [⟨0, 0, kp, tn⟩]).toArray 24)) (W2.alloc (.cells (List.flatMap fateCells [⟨0, 0, kp, tn⟩]).toArray 24)).heap.size (some ⟨W2.heap.size, 0, none⟩) [⟨0, 0, kp, tn⟩] := ⟨hfa.1.more (by rw [hsz7]; exact Nat.le_refl _), hfa.2⟩
        have hD7 : Dv (pdev ws) w1 (W2.alloc (.cells #[.int .u8 0, .int .i64 0, .int .i64 kp, .int .i64 tn] 24)) F (.pointer (some ⟨gp, 0, none⟩)) := hD2.below a7
        have hO7 : Outs (W2.alloc (.cells #[.int .u8 0, .int .i64 0, .int .i64 kp, .int .i64 tn] 24)) F Lr (zer :: ws) := hO2.below a7
        have hr7 : (W2.alloc (.cells #[.int .u8 0, .int .i64 0, .int .i64 kp, .int .i64 tn] 24)).ownsRow b3 28 1 (.slice A0 (ls.length + 1) c0) (ls.length + 1) Lr := kept_below a7 hr2
        have hb7 : Below w.heap.size w (W2.alloc (.cells #[.int .u8 0, .int .i64 0, .int .i64 kp, .int .i64 tn] 24)) := hb2.trans (a7.mono (by omega))
        have hgd := pdev_good ws hws (N := 20) (by omega)
        have hc : Calls Try.prog 13 #[.pointer (some ⟨gp, 0, none⟩), .slice (some ⟨W2.heap.size, 0, none⟩) 1 1] (W2.alloc (.cells #[.int .u8 0, .int .i64 0, .int .i64 kp, .int .i64 tn] 24)) fun e w' => e = .returned (.tuple #[]) ∧ DevPost ((pdev ws).crash [⟨0, 0, kp, tn⟩]) F (.pointer (some ⟨gp, 0, none⟩)) (W2.alloc (.cells #[.int .u8 0, .int .i64 0, .int .i64 kp, .int .i64 tn] 24)) w' :=
          crash_any hD7.dev hD7.hi hgd (by omega) (some ⟨W2.heap.size, 0, none⟩) 1 [⟨0, 0, kp, tn⟩] hfa' (fun b o e z => by injection e with e; injection e with e1 e2; subst e1; have := hD2.hi _ z; omega) (by simp)
        rw [HWS.out] at hc
        have him := pdev_crash ws ⟨0, 0, kp, tn⟩ rfl rfl
        have hgd' := hgd.crash [⟨0, 0, kp, tn⟩]
        have hw17 : w1.heap.size ≤ (W2.alloc (.cells #[.int .u8 0, .int .i64 0, .int .i64 kp, .int .i64 tn] 24)).heap.size := by rw [World.size_alloc]; omega
        have hsp := pres_split ws hws ⟨0, 0, kp, tn⟩
        clear hfa hfa' a7 hsz7 hD2 hO2 hr2 hb2 hgd
        go_wp2_with fail
        refine hc.mono ?_
        rintro e w8 ⟨rfl, hp8⟩
        generalize World.alloc W2 _ = w7 at *
        obtain ⟨hD8, b8⟩ := hD7.post hw17 hp8
        have hO8 := hO7.post hp8.2
        have hr8 := hp8.2.own hr7 hnF
        have hb8 := hb7.trans (b8.mono (by omega))
        have hw8 := hp8.2.size
        clear hD7 hO7 hr7 hb7 hp8 hc b8
        generalize grow F w7 w8 = F8 at *
        generalize (pdev ws).crash [⟨0, 0, kp, tn⟩] = D8 at *
        go_wp2_with fail
        refine (image_any hD8.dev hgd' 0 (by omega)).mono ?_
        rw [him]
        rintro e w9 hret
        obtain ⟨A9, c9, L9, rfl, o9, r9, b9, at9, re9⟩ := hret.is
        clear hret
        have hO9 := (hO8.below b9).reads
        have hr9 := At.own (kept_below b9 hr8)
        have hb9 := hb8.trans (b9.mono (by omega))
        clear hD8 hO8 hr8 hb8 o9 r9 b9
        obtain ⟨K, T, hK, hl128, hS1, hS2⟩ := hsp
        generalize presL ws ⟨0, 0, kp, tn⟩ = rl at *
        obtain ⟨b', o', A', c', rfl, -, v3, -, y9⟩ := reads_at at9 re9 (k := 0) (by simp)
        rw [Nat.add_zero, show ([rl] : List (List Nat))[0]'(by simp) = rl from rfl, hl128] at v3
        rw [show ([rl] : List (List Nat))[0]'(by simp) = rl from rfl] at y9
        have hall : ∀ l ∈ zer :: ws, l.length = 128 := fun l hl => by
          rcases List.mem_cons.1 hl with rfl | z
          · exact zer_length
          · exact hws l z
        have hln : (zer :: ws).length = ls.length + 1 := by simp; omega
        generalize zer :: ws = all at *
        rw [show ([rl] : List (List Nat)).length = 1 from rfl]
        clear at9 re9 hws hwsl him hgd' hA hR
        have hrs := y9.2
        obtain ⟨bx, ox, rfl, -, -, -⟩ := y9.at_ (k := 0) (by omega)
        have hrc : ∀ j (hj : j < 128), ∀ W, Drew w9 W → W.cell? ⟨bx, ox + j, none⟩ = some (.int .u8 (nth rl j : Nat)) := fun j hj W hW => by
          rw [nth_eq (by omega)]
          obtain ⟨b1, o1, e1, -, q, -⟩ := (y9.below (hW.below w9.heap.size)).at_ (k := j) (by omega)
          injection e1 with e1
          injection e1 with e2 e3
          subst e2
          subst e3
          exact q
        have hac : ∀ i (hi : i < all.length), ∃ b1 o1 b2 o2 c2, A0 = some ⟨b1, o1, none⟩ ∧ (∀ W, Drew w9 W → W.cell? ⟨b1, o1 + i, none⟩ = some (.slice (some ⟨b2, o2, none⟩) 128 c2)) ∧ ∀ j (hj : j < 128), ∀ W, Drew w9 W → W.cell? ⟨b2, o2 + j, none⟩ = some (.int .u8 (nth all[i] j : Nat)) := fun i hi => by
          obtain ⟨b1, o1, A1, c1, rfl, hb1, q1, -, q2⟩ := reads_at hr9 hO9 hi
          have hl := hall _ (List.getElem_mem hi)
          obtain ⟨b2, o2, rfl, -, -, -⟩ := q2.at_ (k := 0) (by omega)
          rw [hl] at q1
          refine ⟨b1, o1, b2, o2, c1, rfl, fun W hW => ((hW.below w9.heap.size).cell (p := ⟨b1, o1 + i, none⟩) hb1).trans q1, fun j hj W hW => ?_⟩
          rw [nth_eq (by omega)]
          obtain ⟨b3, o3, e1, -, q, -⟩ := (q2.below (hW.below w9.heap.size)).at_ (k := j) (by omega)
          injection e1 with e1
          injection e1 with e2 e3
          subst e2
          subst e3
          exact q
        have hv3 : ∀ W, Drew w9 W → W.cell? ⟨b', o', none⟩ = some (.slice (some ⟨bx, ox, none⟩) 128 c') := fun W hW => by
          obtain ⟨q, rfl⟩ := hW
          exact v3
        have HRC := Lib.hid hrc
        have HAC := Lib.hid hac
        have HV3 := Lib.hid hv3
        have HB9 := Lib.hid hb9
        have hovl : ∀ i (hi : i < all.length), ∃ l, all[i + 1]?.getD all[i] = l ∧ l.length = 128 := fun i hi => by
          refine ⟨_, rfl, ?_⟩
          rcases Nat.lt_or_ge (i + 1) all.length with q | q
          · rw [List.getElem?_eq_getElem q]
            exact hall _ (List.getElem_mem q)
          · rw [List.getElem?_eq_none q]
            exact hall _ (List.getElem_mem hi)
        have HOVL := Lib.hid hovl
        have HS := Lib.hid (And.intro hS1 hS2)
        have HALL := Lib.hid hall
        clear hrc hac hv3 hb9 hovl y9 hr9 hO9 hS1 hS2
        go_wp2_with fail
        clear v3
        go_loopw [10, 11, 12] (fun i _ _ wr => ∃ q : Nat, q ≤ K ∧ i = .int .i64 q ∧ Drew w9 wr) (fun i _ _ _ => K + 1 - (intOf i).toNat)
        case atStart => exact ⟨0, Nat.zero_le _, rfl, Drew.refl _⟩
        case round =>
          obtain ⟨q, hq, rfl, hd⟩ := hrel
          have hqa : q < all.length := by omega
          have e5 : decide ((q : Int) < ((ls.length + 1 : Nat) : Int)) = true := by rw [decide_eq_true_iff]; omega
          have e6 : (0 : Int) ≤ (q : Int) := by omega
          have e7 : (q : Int) < ((ls.length + 1 : Nat) : Int) := by omega
          obtain ⟨b1, o1, b2, o2, c2, rfl, u1, u2⟩ := HAC.out q hqa
          have u1' := u1 _ hd
          obtain ⟨ov, hov, hovl⟩ := HOVL.out q hqa
          have hover : ∃ bo oo co, (∀ W, Drew w9 W → W.cell? ⟨b1, o1 + (if q + 1 < all.length then q + 1 else q), none⟩ = some (.slice (some ⟨bo, oo, none⟩) 128 co)) ∧ ∀ j (hj : j < 128), ∀ W, Drew w9 W → W.cell? ⟨bo, oo + j, none⟩ = some (.int .u8 (nth ov j : Nat)) := by
            by_cases hlt : q + 1 < all.length
            · obtain ⟨b1', o1', b2', o2', c2', e, u1', u2'⟩ := HAC.out (q + 1) hlt
              injection e with e
              injection e with e1 e2
              subst e1
              subst e2
              rw [List.getElem?_eq_getElem hlt, Option.getD_some] at hov
              subst hov
              rw [if_pos hlt]
              exact ⟨_, _, _, u1', u2'⟩
            · rw [List.getElem?_eq_none (by omega), Option.getD_none] at hov
              subst hov
              rw [if_neg hlt]
              exact ⟨_, _, _, u1, u2⟩
          obtain ⟨bo, oo, co, v1, v2⟩ := hover
          have hSq : q = K → (∀ j, j < 128 → j < T → nth rl j = nth ov j) ∧ (∀ j, j < 128 → T ≤ j → nth rl j = nth all[q] j) := fun e => by
            subst e
            refine ⟨fun j hj hjT => ?_, fun j hj hjT => ?_⟩
            · have := HS.out.1 j hjT hj
              rw [hov] at this
              exact congrArg (fun o => o.getD 0) this
            · exact congrArg (fun o => o.getD 0) (HS.out.2 j hjT)
          have hbl : (all[q]).length = 128 := HALL.out _ (List.getElem_mem hqa)
          generalize all[q] = bs at *
          have HSQ := Lib.hid hSq
          have HV1 := Lib.hid v1
          have HV2 := Lib.hid v2
          have HU1 := Lib.hid u1
          have HU2 := Lib.hid u2
          clear hov hSq v1 v2 u1 u2
          go_upto_if 82 with (fail)
          go_cut [11] (fun s11 wx => wr = wx ∧ s11 = .slice (some ⟨bo, oo, none⟩) 128 co)
          case first =>
            by_cases hlt : q + 1 < all.length
            · have v1' := HV1.out _ hd
              rw [if_pos hlt] at v1'
              have e8 : decide ((q : Int) + 1 < ((ls.length + 1 : Nat) : Int)) = true := by rw [decide_eq_true_iff]; omega
              have e9 : (q : Int) + 1 < ((ls.length + 1 : Nat) : Int) := by omega
              have e10 : (0 : Int) ≤ (q : Int) + 1 := by omega
              go_wp2
              go_meet
              case rel => exact ⟨rfl, rfl⟩
            · have v1' := HV1.out _ hd
              rw [if_neg hlt] at v1'
              have hsame := Option.some.inj (u1'.symm.trans v1')
              have HSM := Lib.hid hsame
              clear hsame v1'
              have e8 : decide ((q : Int) + 1 < ((ls.length + 1 : Nat) : Int)) = false := by rw [decide_eq_false_iff_not]; omega
              go_wp2
              go_meet
              case rel => exact ⟨rfl, HSM.out⟩
          case rest =>
            obtain ⟨rfl, rfl⟩ := hcut
            go_wp2_with fail
            go_loopw [12] (fun s wr => ∃ j : Nat, j ≤ 128 ∧ s = .int .i64 j ∧ Drew w9 wr) (fun s _ => 128 - (intOf s).toNat)
            case atStart => exact ⟨0, by omega, rfl, hd⟩
            case round =>
              obtain ⟨j, hj, rfl, hdj⟩ := hrel
              clear hd u1'
              rcases (show (j < 128 ∧ nth rl j = nth ov j) ∨ (j < 128 ∧ nth rl j ≠ nth ov j) ∨ j = 128 from by omega) with ⟨m1, m2⟩ | ⟨m1, m2⟩ | m1
              · have g1 : decide ((j : Int) < 128) = true := by rw [decide_eq_true_iff]; omega
                have g2 : (((nth rl j : Nat) : Int) == (nth ov j : Nat)) = true := by rw [m2]; simp
                have g3 : (0 : Int) ≤ (j : Int) := by omega
                have g4 : (j : Int) < 128 := by omega
                have d1 := HV3.out _ hdj
                have d2 := HRC.out j m1 _ hdj
                have d3 := HV2.out j m1 _ hdj
                clear m2
                go_wp2_with fail
                go_quiet (fail)
                generalize hwq : World.drewN _ _ = w2'
                have hdn : Drew w9 w2' := by rw [← hwq]; exact hdj.more _
                clear hwq d1 d2 d3
                go_wp2
                go_roundw
                case rel => exact ⟨j + 1, by omega, by go_num, hdn⟩
                case measure => simp [intOf]; omega
              · have g1 : decide ((j : Int) < 128) = true := by rw [decide_eq_true_iff]; omega
                have g2 : (((nth rl j : Nat) : Int) == (nth ov j : Nat)) = false := by rw [beq_eq_false_iff_ne]; omega
                have g3 : (0 : Int) ≤ (j : Int) := by omega
                have g4 : (j : Int) < 128 := by omega
                have d1 := HV3.out _ hdj
                have d2 := HRC.out j m1 _ hdj
                have d3 := HV2.out j m1 _ hdj
                have HEX : Hid (q = K → T ≤ j ∨ j = 128) := fun e => by
                  left
                  rcases Nat.lt_or_ge j T with z | z
                  · exact absurd ((HSQ.out e).1 j m1 z) m2
                  · exact z
                clear m2
                go_wp2_with fail
                go_quiet (fail)
                generalize hwq : World.drewN _ _ = w2'
                have hdx : Drew w9 w2' := by rw [← hwq]; exact hdj.more _
                clear hwq d1 d2 d3
                go_wp2_with fail
                go_loopw [12] (fun s wr => ∃ j : Nat, j ≤ 128 ∧ s = .int .i64 j ∧ Hid (q = K → T ≤ j ∨ j = 128) ∧ Drew w9 wr) (fun s _ => 128 - (intOf s).toNat)
                case atStart => exact ⟨j, hj, rfl, HEX, hdx⟩
                case round =>
                  clear HEX hdx hdj
                  obtain ⟨m, hm, rfl, HX, hdm⟩ := hrel
                  rcases (show (m < 128 ∧ nth rl m = nth bs m) ∨ (m < 128 ∧ nth rl m ≠ nth bs m) ∨ m = 128 from by omega) with ⟨m1, m2⟩ | ⟨m1, m2⟩ | m1
                  · have g1 : decide ((m : Int) < 128) = true := by rw [decide_eq_true_iff]; omega
                    have g2 : (((nth rl m : Nat) : Int) == (nth bs m : Nat)) = true := by rw [m2]; simp
                    have g3 : (0 : Int) ≤ (m : Int) := by omega
                    have g4 : (m : Int) < 128 := by omega
                    have d1 := HV3.out _ hdm
                    have d2 := HRC.out m m1 _ hdm
                    have d3 := HU1.out _ hdm
                    have d4 := HU2.out m m1 _ hdm
                    clear m2
                    go_wp2_with fail
                    go_quiet (fail)
                    generalize hwq : World.drewN _ _ = w2'
                    have hdn : Drew w9 w2' := by rw [← hwq]; exact hdm.more _
                    clear hwq d1 d2 d3 d4
                    go_wp2
                    go_roundw
                    case rel => exact ⟨m + 1, by omega, by go_num, fun e => (HX.out e).elim (fun z => .inl (by omega)) fun z => by omega, hdn⟩
                    case measure => simp [intOf]; omega
                  · have g1 : decide ((m : Int) < 128) = true := by rw [decide_eq_true_iff]; omega
                    have g2 : (((nth rl m : Nat) : Int) == (nth bs m : Nat)) = false := by rw [beq_eq_false_iff_ne]; omega
                    have g3 : (0 : Int) ≤ (m : Int) := by omega
                    have g4 : (m : Int) < 128 := by omega
                    have g5 : ((m : Int) == 128) = false := by rw [beq_eq_false_iff_ne]; omega
                    have d1 := HV3.out _ hdm
                    have d2 := HRC.out m m1 _ hdm
                    have d3 := HU1.out _ hdm
                    have d4 := HU2.out m m1 _ hdm
                    have hqK : q + 1 ≤ K := by
                      rcases Nat.lt_or_ge q K with z | z
                      · omega
                      · have e : q = K := by omega
                        rcases HX.out e with y | y
                        · exact absurd ((HSQ.out e).2 m m1 y) m2
                        · omega
                    clear m2
                    go_wp2_with fail
                    go_quiet (fail)
                    generalize hwq : World.drewN _ _ = w2'
                    have hdn : Drew w9 w2' := by rw [← hwq]; exact hdm.more _
                    clear hwq d1 d2 d3 d4
                    go_wp2
                    go_roundw
                    case rel => exact ⟨q + 1, hqK, by go_num, hdn⟩
                    case measure => simp [intOf]; omega
                  · subst m1
                    have g1 : decide (((128 : Nat) : Int) < 128) = false := rfl
                    go_wp2_with fail
                    go_quiet (fail)
                    generalize hwq : World.drewN _ _ = w2'
                    have hdn : Drew w9 w2' := by rw [← hwq]; exact hdm.more _
                    clear hwq
                    go_wp2
                    go_ret
                    exact ⟨rfl, HB9.out.trans ((hdn.below w9.heap.size).mono HB9.out.size)⟩
              · have HEX : Hid (q = K → T ≤ j ∨ j = 128) := fun _ => .inr m1
                have g1 : decide ((j : Int) < 128) = false := by rw [decide_eq_false_iff_not]; omega
                clear m1
                go_wp2_with fail
                go_quiet (fail)
                generalize hwq : World.drewN _ _ = w2'
                have hdx : Drew w9 w2' := by rw [← hwq]; exact hdj.more _
                clear hwq
                go_wp2_with fail
                go_loopw [12] (fun s wr => ∃ j : Nat, j ≤ 128 ∧ s = .int .i64 j ∧ Hid (q = K → T ≤ j ∨ j = 128) ∧ Drew w9 wr) (fun s _ => 128 - (intOf s).toNat)
                case atStart => exact ⟨j, hj, rfl, HEX, hdx⟩
                case round =>
                  clear HEX hdx hdj
                  obtain ⟨m, hm, rfl, HX, hdm⟩ := hrel
                  rcases (show (m < 128 ∧ nth rl m = nth bs m) ∨ (m < 128 ∧ nth rl m ≠ nth bs m) ∨ m = 128 from by omega) with ⟨m1, m2⟩ | ⟨m1, m2⟩ | m1
                  · have g1 : decide ((m : Int) < 128) = true := by rw [decide_eq_true_iff]; omega
                    have g2 : (((nth rl m : Nat) : Int) == (nth bs m : Nat)) = true := by rw [m2]; simp
                    have g3 : (0 : Int) ≤ (m : Int) := by omega
                    have g4 : (m : Int) < 128 := by omega
                    have d1 := HV3.out _ hdm
                    have d2 := HRC.out m m1 _ hdm
                    have d3 := HU1.out _ hdm
                    have d4 := HU2.out m m1 _ hdm
                    clear m2
                    go_wp2_with fail
                    go_quiet (fail)
                    generalize hwq : World.drewN _ _ = w2'
                    have hdn : Drew w9 w2' := by rw [← hwq]; exact hdm.more _
                    clear hwq d1 d2 d3 d4
                    go_wp2
                    go_roundw
                    case rel => exact ⟨m + 1, by omega, by go_num, fun e => (HX.out e).elim (fun z => .inl (by omega)) fun z => by omega, hdn⟩
                    case measure => simp [intOf]; omega
                  · have g1 : decide ((m : Int) < 128) = true := by rw [decide_eq_true_iff]; omega
                    have g2 : (((nth rl m : Nat) : Int) == (nth bs m : Nat)) = false := by rw [beq_eq_false_iff_ne]; omega
                    have g3 : (0 : Int) ≤ (m : Int) := by omega
                    have g4 : (m : Int) < 128 := by omega
                    have g5 : ((m : Int) == 128) = false := by rw [beq_eq_false_iff_ne]; omega
                    have d1 := HV3.out _ hdm
                    have d2 := HRC.out m m1 _ hdm
                    have d3 := HU1.out _ hdm
                    have d4 := HU2.out m m1 _ hdm
                    have hqK : q + 1 ≤ K := by
                      rcases Nat.lt_or_ge q K with z | z
                      · omega
                      · have e : q = K := by omega
                        rcases HX.out e with y | y
                        · exact absurd ((HSQ.out e).2 m m1 y) m2
                        · omega
                    clear m2
                    go_wp2_with fail
                    go_quiet (fail)
                    generalize hwq : World.drewN _ _ = w2'
                    have hdn : Drew w9 w2' := by rw [← hwq]; exact hdm.more _
                    clear hwq d1 d2 d3 d4
                    go_wp2
                    go_roundw
                    case rel => exact ⟨q + 1, hqK, by go_num, hdn⟩
                    case measure => simp [intOf]; omega
                  · subst m1
                    have g1 : decide (((128 : Nat) : Int) < 128) = false := rfl
                    go_wp2_with fail
                    go_quiet (fail)
                    generalize hwq : World.drewN _ _ = w2'
                    have hdn : Drew w9 w2' := by rw [← hwq]; exact hdm.more _
                    clear hwq
                    go_wp2
                    go_ret
                    exact ⟨rfl, HB9.out.trans ((hdn.below w9.heap.size).mono HB9.out.size)⟩
end Go.Proofs.Ytnbbneldbagohaa
