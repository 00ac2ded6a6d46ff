/- The document's device: Write. Conditions: the device lies there; the bytes lie outside it. -/
import Derived.Test.YtkganajbilnanaaGreatYRDev
set_option linter.unusedVariables false
set_option linter.unusedSimpArgs false
namespace Go.Proofs.YtkganajbilnanaaGreat
open Go.ChangeShapes Go.WideShapes Go.ChangeAt Go.RowKit
set_option maxRecDepth 20000
section
variable {w : World} {F : Nat → Prop} {s : Nat → Value} {X : Nat → List Value}
theorem FilesAt.more {ts : TypeId} {f : Nat → List Sect} (hts : ts ≠ 45) (hts2 : ts ≠ 5) {w1 w2 w3 : World} {A A2 A5 : Option Addr} {n k c c2 c4 c5 m : Nat} {L : List Value} {l : List Nat} (h : FilesAt ts f w F s X) (hF : ∀ b, F b → b < w.heap.size) (hn : n < 2) (hk : k < (f n).length)
    {g : Nat} (es : s n = .slice (some ⟨g, 0, none⟩) (f n).length c) {lw : Value} (e1 : (X n)[2 * k]? = some lw) (e2 : (X n)[2 * k + 1]? = some (.slice A m c2)) (ht : Txt w F lw (f n)[k].last)
    (hm : (f n)[k].waits.length = m) (how : w.ownsRow 0 45 1 (.slice A m c2) m L) (hFw : ∀ b, (Value.slice A m c2).ownBlock = some b → F b) (hL : ∀ (j : Nat) (u : Value) (t : List Nat), L[j]? = some u → (f n)[k].waits[j]? = some t → Txt w F u t)
    (hb : Below w.heap.size w w1) (hc : w1.ownsRow w.heap.size 5 1 (.slice A2 128 c4) 128 (l.map byteV)) (hs : Small l) (hl : l.length = 128)
    (ho : w2.ownsRow 0 45 1 (.slice A5 (m + 1) c5) (m + 1) (L ++ [.slice A2 128 c4])) (hg : (w1.alloc (.cells #[.slice A2 128 c4] 45)).grownBy w2 (Value.slice A m c2).ownBlock)
    (hat : (Value.slice A5 (m + 1) c5).ownBlock = (Value.slice A m c2).ownBlock ∨ (Value.slice A5 (m + 1) c5).ownBlock = some (w1.alloc (.cells #[.slice A2 128 c4] 45)).heap.size)
    (e3 : w3 = w2.setCell ⟨g, 2 * k + 1, none⟩ (.slice A5 (m + 1) c5)) :
    FilesAt ts (putD f n k (((f n)[k]).more l)) w3 (grow F w w3) s (updX X n ((X n).set (2 * k + 1) (.slice A5 (m + 1) c5))) ∧ Only (Hard F w) w w3 ∧ ∀ (g' : Nat) (t : TypeId) (cs : Array Value), Blk w g' t cs → t ≠ ts → t ≠ 45 → Blk w3 g' t cs := by
  have hba : Below w.heap.size w (w1.alloc (.cells #[.slice A2 128 c4] 45)) := hb.alloc hb.size _
  generalize ew1 : w1.alloc (.cells #[.slice A2 128 c4] 45) = wa at *
  have hsz1 := hba.size
  have hsz2 := hg.size
  have hsz3 : w3.heap.size = w2.heap.size := by rw [e3]; simp [World.setCell]
  have hgw : g < w.heap.size := by
    have := (h.file n hn).1.lt g (by rw [es]; rfl)
    exact this.2
  have hFg : F g := (h.file n hn).2.1 g (by rw [es]; rfl)
  -- the device in wa
  have ho1 : Only (fun _ => False) w wa := Only.of_below hba _
  have a1 : FilesBut ts f wa F s X n k := (h.only ho1 fun _ _ q => q).but n k
  have how1 : wa.ownsRow 0 45 1 (.slice A m c2) m L := ho1.own how fun _ _ q => q
  have ht1 := ht.only ho1 fun _ _ _ q => q
  have hL1 := fun j u t q q' => (hL j u t q q').only ho1 fun _ _ _ q => q
  have hc1 : wa.ownsRow w.heap.size 5 1 (.slice A2 128 c4) 128 (l.map byteV) := by
    rw [← ew1]
    exact kept_none (below_none ((Below.refl _ _).alloc (Nat.le_refl _) _)) hc
  -- .. in w2
  have ho2 : Only (fun b => (Value.slice A m c2).ownBlock = some b) wa w2 := Only.of_grown hg fun b e => .inl e
  have hu2 : ∀ b, F b → U8 wa b → ¬ (Value.slice A m c2).ownBlock = some b := fun b _ hb e => absurd ((own_ty how1 e).uniq hb) (by decide)
  have a2 : FilesBut ts f w2 F s X n k := a1.wrote hn hts e2 how1 hg
  have ht2 := ht1.only ho2 hu2
  have hL2 := fun j u t q q' => (hL1 j u t q q').only ho2 hu2
  have hc2 : w2.ownsRow w.heap.size 5 1 (.slice A2 128 c4) 128 (l.map byteV) := hc1.kept hg (own_apart (by decide) hc1 how1)
  -- the new values
  have hFG : ∀ b, F b → grow F w w3 b := fun b q => .inl q
  have hnew : Txt w2 (grow F w w3) (.slice A2 128 c4) l := Txt.own hc2 hl hs fun b e => .inr ⟨(hc2.lt b e).1, by have := (hc2.lt b e).2; omega⟩
  have hown : ∀ b, (Value.slice A5 (m + 1) c5).ownBlock = some b → grow F w w3 b := fun b e => by
    rcases hat with q | q
    · exact .inl (hFw b (q.symm.trans e))
    · rw [q] at e
      injection e with e
      subst e
      exact .inr ⟨hsz1, by have := (ho.lt _ q).2; omega⟩
  have hWn : IsWaits w2 (grow F w w3) (.slice A5 (m + 1) c5) ((f n)[k].more l).waits := by
    refine ⟨L ++ [.slice A2 128 c4], by simp only [Sect.more, List.length_append, hm, List.length_singleton]; exact ho, hown, fun j u t hu ht' => ?_⟩
    have hLl : L.length = m := by have := how.1; omega
    rcases Nat.lt_trichotomy j m with q | q | q
    · rw [List.getElem?_append_left (by omega)] at hu
      simp only [Sect.more] at ht'
      rw [List.getElem?_append_left (by omega)] at ht'
      exact (hL2 j u t hu ht').mono fun b z _ => .inl z
    · subst q
      rw [List.getElem?_append_right (by omega), hLl] at hu
      simp only [Sect.more] at ht'
      rw [List.getElem?_append_right (by omega), hm] at ht'
      simp at hu ht'
      subst hu
      subst ht'
      exact hnew
    · rw [List.getElem?_eq_none (by simp; omega)] at hu
      cases hu
  have hrow2 : w2.ownsRow 0 ts 2 (s n) (f n).length (X n) := (a2.row n hn).1
  rw [es] at hrow2
  have hst := (hrow2.stored (2 * k + 1) (.slice A5 (m + 1) c5)).1
  rw [← e3, ← es] at hst
  have hXl : (X n).length = 2 * (f n).length := by have := hrow2.1; omega
  have hone : Only (fun b => (s n).ownBlock = some b) w2 w3 := by
    rw [e3, es]
    exact (Only.refl (fun b => (Value.slice (some ⟨g, 0, none⟩) (f n).length c).ownBlock = some b) w2).setCell (p := ⟨g, 2 * k + 1, none⟩) (.inl rfl) _
  have hb3 : ∀ b, b ≠ g → w3.heap[b]? = w2.heap[b]? := fun b hb => by
    rw [e3]
    exact Below.heap_setCell w2 ⟨g, 2 * k + 1, none⟩ _ b hb
  have htyg : Ty w2 g ts := own_ty hrow2 rfl
  refine ⟨(a2.mono hFG).put hn hts hts2 hst (lv := lw) (wv := .slice A5 (m + 1) c5) ?_ ?_ ?_ hone (ht2.mono fun b q _ => .inl q) hWn ?_, ?_, ?_⟩
  · rw [List.getElem?_set_ne (by omega)]
    exact e1
  · rw [List.getElem?_set_self (by omega)]
  · exact fun j h1 h2 => List.getElem?_set_ne (by omega)
  · intro m' i u hm' hne hu
    rcases h.apart m' i n k u _ hm' hn hne hu e2 with z | z
    · exact .inl z
    · cases hz : u.ownBlock with
      | none => exact .inl rfl
      | some b =>
        right; right
        intro q
        rcases hat with y | y
        · exact z (hz.trans (q.trans y))
        · rw [q.symm] at y
          injection y with y
          have : u.ownBlock = some b := hz
          have hub : b < w.heap.size := by
            have hX' := (h.file m' hm').1.1
            have hi : i < (f m').length := by
              have := (List.getElem?_eq_some_iff.1 hu).1
              omega
            obtain ⟨_, wv', _, q2, _, q4⟩ := (h.file m' hm').2.2 i _ (List.getElem?_eq_getElem hi)
            rw [hu] at q2
            injection q2 with q2
            subst q2
            obtain ⟨L', r1, _⟩ := q4
            exact (r1.lt b hz).2
          omega
  · have hA : Only (Hard F w) w w2 := (ho1.mono (S' := Hard F w) fun _ q => q.elim).trans ho2 fun b q => by
      left
      refine ⟨hFw b q, fun hu => ?_⟩
      exact absurd ((own_ty how q).uniq hu) (by decide)
    rw [e3]
    refine hA.setCell (p := ⟨g, 2 * k + 1, none⟩) (.inl ⟨hFg, fun hu => ?_⟩) _
    have hr := (h.file n hn).1
    exact absurd ((own_ty hr (by rw [es]; rfl)).uniq hu) hts2
  · intro g' t cs hB h1 h2
    have q1 := hB.only ho1 fun q => q
    have q2 := q1.grown hg fun e => h2 (q1.ty.uniq (own_ty how1 e.symm))
    rw [e3]
    exact q2.far (fun e => h1 (by subst e; exact q2.ty.uniq htyg)) _
end
theorem rsector_store {w w' : World} {g m c c2 : Nat} {A : Option Addr} {X L : List Value} {j : Nat} (h : w.ownsRow 0 126 2 (.slice (some ⟨g, 0, none⟩) m c) m X) {m2 : Nat} (h2 : w.ownsRow 0 45 1 (.slice A m2 c2) m2 L) {o : Obj} (hg : (w.alloc o).grownBy w' (Value.slice A m2 c2).ownBlock) (hj : j < 2 * m) :
    w'.frozen? ⟨g, j, none⟩ = false ∧ ∃ v, w'.cell? ⟨g, j, none⟩ = some v := by
  have h3 := (kept_none (below_none ((Below.refl _ _).alloc (Nat.le_refl w.heap.size) o)) h).kept hg (own_apart (by decide) (kept_none (below_none ((Below.refl _ _).alloc (Nat.le_refl w.heap.size) o)) h) (kept_none (below_none ((Below.refl _ _).alloc (Nat.le_refl w.heap.size) o)) h2))
  refine ⟨h3.frozenAt j, ?_⟩
  have := h3.cellAt j (by omega)
  have hl := h3.1
  rw [List.getElem?_eq_getElem (by omega)] at this
  exact ⟨_, this⟩
section
variable {D : DevP} {w : World} {F : Nat → Prop} {gp : Nat}
set_option maxHeartbeats 20000000 in
theorem rwrite_some (h : IsRDev D w F (.pointer (some ⟨gp, 0, none⟩))) (hF : ∀ b, F b → b < w.heap.size) {N : Nat} (hG : D.good N) (hN : N ≤ 100000) {n k : Nat} (hn : n < 2) (hk : k < (D.f n).length) (A : Option Addr) (c : Nat) (l : List Nat) (hl : BytesIn w (fun b => ¬ F b) A l) (h128 : l.length = 128) :
    Calls Tryz.prog 88 #[.pointer (some ⟨gp, 0, none⟩), .int .u8 n, .int .i64 k, .slice A l.length c] w fun e w' => e = .returned (.int .i64 0) ∧ RPost (D.write n k l).2 F (.pointer (some ⟨gp, 0, none⟩)) w w' := by
  obtain ⟨gp', s, lf, X, e, h⟩ := h
  injection e with e
  injection e with e
  injection e with e
  subst e
  obtain ⟨i0, hi0, hz0, hz1, hz2⟩ := info_parts row_info
  have hno := none_yes h hn hk (hG n hn).1
  have hgo := stopped_any h
  have hD : (D.write n k l).2 = if D.goes.1 then D.goes.2.put n k ((D.f n)[k].more l) else D.goes.2 := by
    unfold DevP.write
    have hh : D.has n (k : Int) := ⟨hn, by omega, by omega⟩
    rw [if_pos hh, if_pos h128, Int.toNat_natCast, DevP.sect_eq hk]
  rw [hD]
  clear hD
  have hne : ((l.length : Int) != 128) = false := by rw [h128]; rfl
  rw [h128] at hne ⊢
  cases hg : D.goes.1 with
  | false =>
    rw [hg] at hgo
    generalize D.goes.2 = D' at *
    clear h hG
    go_enter Tryz.func88, Tryz.ntmps88
    go_wp2_with fail
    refine hno.mono ?_
    rintro e w1 ⟨rfl, rfl⟩
    go_wp2_with fail
    refine hgo.mono ?_
    rintro e w1 ⟨rfl, ⟨lf', h1⟩, h2⟩
    have hfin : RPost D' F (.pointer (some ⟨gp, 0, none⟩)) w w1 := ⟨⟨gp, s, lf', X, rfl, h1.mono fun b q => .inl q⟩, h2.mono fun b q => .inl q.1⟩
    clear h1 h2
    go_wp2
    go_ret
    exact ⟨rfl, hfin⟩
  | true =>
    rw [hg] at hgo
    have hgf := D.goes_f
    generalize hD' : D.goes.2 = D' at *
    have hGk := hG.at_ hn hk
    go_enter Tryz.func88, Tryz.ntmps88
    go_wp2_with fail
    refine hno.mono ?_
    rintro e w1 ⟨rfl, rfl⟩
    go_wp2_with fail
    refine hgo.mono ?_
    rintro e w1 ⟨rfl, ⟨lf', h1⟩, h2⟩
    obtain ⟨f0, left0, hal0⟩ := D'
    simp only at hgf
    subst hgf
    clear hD' hgo hno
    obtain ⟨g, c1, lw, wv, es, q0, q1, ht, hW, hFg, hgw, x1, x2⟩ := h1.toFilesAt.sector hn hk
    simp only at es ht hW
    obtain ⟨L, how, hFw, hTw⟩ := hW
    obtain ⟨A5, c5, rfl, -, -⟩ := own_form how
    have hmN := hGk.2.1
    obtain ⟨m, hm⟩ : ∃ m, (D.f n)[k].waits.length = m := ⟨_, rfl⟩
    rw [hm] at how hFw q1 hmN x2
    have HM := Lib.hid hm
    clear hm
    have hF1 : ∀ b, F b → b < w1.heap.size := fun b q => Nat.lt_of_lt_of_le (hF b q) h2.size
    have hl1 := (hl.only h2 fun b q q' => q q'.1).bytes
    have hcl : Calls Tryz.prog 72 #[.slice A 128 c] w1.drew (RetBytes 5 l w1.drew) := by
      have := rlent_any A c l w1.heap.size w1.drew hl1 (by omega)
      rw [h128] at this
      exact this
    have hrow0 : w1.ownsRow 0 126 2 (.slice (some ⟨g, 0, none⟩) (D.f n).length c1) (D.f n).length (X n) := by
      have := (h1.file n hn).1
      rw [es] at this
      exact this
    have hls : Small l := hl.2
    have hgpl := h1.blk.lt
    have hgc : w1.cell? ⟨gp, n, none⟩ = some (.slice (some ⟨g, 0, none⟩) (D.f n).length c1) := by rw [← es]; exact h1.cellF hn
    have hne2 : ¬ g = gp := fun e => by subst e; exact absurd (h1.blk.ty.uniq (own_ty hrow0 rfl)) (by decide)
    have hnw : ∀ b, (Value.slice A5 m c5).ownBlock = some b → ¬ b = gp := fun b e e2 => by subst e2; exact absurd (h1.blk.ty.uniq (own_ty how e)) (by decide)
    have post : ∀ (Ac : Option Addr) (cc : Nat) (wc : World) (A6 : Option Addr) (c6 : Nat) (w6 : World), wc.ownsRow w1.heap.size 5 1 (.slice Ac 128 cc) 128 (l.map byteV) → Below w1.heap.size w1.drew wc →
        w6.ownsRow 0 45 1 (.slice A6 (m + 1) c6) (m + 1) (L ++ [.slice Ac 128 cc]) → (wc.alloc (.cells #[.slice Ac 128 cc] 45)).grownBy w6 (Value.slice A5 m c5).ownBlock →
        ((Value.slice A6 (m + 1) c6).ownBlock = (Value.slice A5 m c5).ownBlock ∨ (Value.slice A6 (m + 1) c6).ownBlock = some (wc.alloc (.cells #[.slice Ac 128 cc] 45)).heap.size) →
        RPost ((⟨D.f, left0, hal0⟩ : DevP).put n k ((D.f n)[k].more l)) F (.pointer (some ⟨gp, 0, none⟩)) w (w6.setCell ⟨g, k * 2 + 1, none⟩ (.slice A6 (m + 1) c6)) := fun Ac cc wc A6 c6 w6 hc1 hb1 ho6 hg6 hat6 => by
      have hbw : Below w1.heap.size w1 wc := (below_drew0 w1).trans hb1
      rw [Nat.mul_comm k 2]
      obtain ⟨y1, y2, y3⟩ := FilesAt.more (by decide) (by decide) h1.toFilesAt hF1 hn hk es x1 x2 ht HM.out how hFw hTw hbw hc1 hls h128 ho6 hg6 hat6 rfl
      refine ⟨⟨gp, s, lf', _, rfl, ⟨y1.mono (grow_trans h2.size), y3 _ _ _ h1.blk (by decide) (by decide), grow_trans h2.size _ (.inl h1.inF), h1.left⟩⟩, (h2.trans y2 fun b q => hard_back hF h2 q).mono fun b q => .inl q.1⟩
    have POST := Lib.hid post
    have hkj : 2 * k + 1 < 2 * (D.f n).length := by omega
    have hcl0 := (hrow0.cellAt (2 * k + 1) (by omega)).trans x2
    clear post ht hTw x1 x2 hF1 hF h2 h1 es HM h hG hGk hl hl1 q0 hcl0
    rw [Nat.mul_comm 2 k] at q1 hkj
    have e4 : (0 : Int) ≤ (n : Int) := by omega
    have e5 : (n : Int) < 2 := by omega
    have e6 : (0 : Int) ≤ (k : Int) := by omega
    have e7 : (k : Int) < ((D.f n).length : Int) := by omega
    have hS : Hid (∀ W, Only (fun b => ¬ b = gp) w1 W → W.cell? ⟨gp, n, none⟩ = some (.slice (some ⟨g, 0, none⟩) (D.f n).length c1)) := fun W hW => (hW.cell (p := ⟨gp, n, none⟩) hgpl (fun q => q rfl)).trans hgc
    have z0 : Only (fun b => ¬ b = gp) w1 w1.drew := Only.of_below (below_drew0 w1) _
    go_wp2_with fail
    go_region_law
      (first
        | (go_simp; go_at_call 72; refine hcl.mono ?_; intro e wc hret; obtain ⟨Ac, cc, rfl, hc1, hb1, -⟩ := hret; rw [h128] at hc1 ⊢; have hbw : Below w1.heap.size w1 wc := (below_drew0 w1).trans hb1; have z1 : Only (fun b => ¬ b = gp) w1 wc := Only.of_below hbw _; have qc : wc.cell? ⟨g, k * 2 + 1, none⟩ = some (.slice A5 m c5) := (hbw.cell (p := ⟨g, k * 2 + 1, none⟩) hgw).trans q1; have hzc := hbw.size; have qa : ∀ o, (wc.alloc o).cell? ⟨g, k * 2 + 1, none⟩ = some (.slice A5 m c5) := fun o => (((Below.refl wc.heap.size wc).alloc (Nat.le_refl _) o).cell (p := ⟨g, k * 2 + 1, none⟩) (Nat.lt_of_lt_of_le hgw hzc)).trans qc; have yc := hS.out _ z1; have ya : ∀ o, (wc.alloc o).cell? ⟨gp, n, none⟩ = some (.slice (some ⟨g, 0, none⟩) (D.f n).length c1) := fun o => hS.out _ (z1.alloc o))
        | (have k4 := kept_below ((Below.refl wc.heap.size wc).alloc (Nat.le_refl _) (.cells #[.slice Ac 128 cc] 45)) (kept_below hbw how); refine step_append_at (by rfl) _ _ 22 22 (by rfl) 0 45 i0 _ 24 Tryz.underlying22 Tryz.underlying22 hi0 hz0 hz1 hz2 rfl (.slice A5 m c5) m L (by rfl) k4 (wc.heap.size + 1) (some ⟨wc.heap.size, 0, none⟩) 1 1 [.slice Ac 128 cc] (by rfl) rfl (At.new wc [.slice Ac 128 cc] 45 (0, 0)) (by simp [Value.oneCell']) (by unfold maxLen; omega) (by omega) (Nat.zero_le _) ?_; intro A6 c6 w6 hown6 hg6 hat6; have hP := Lib.hid (POST.out Ac cc wc A6 c6 w6 hc1 hb1 hown6 hg6 hat6); have hst := rsector_store (j := k * 2 + 1) (kept_below hbw hrow0) (kept_below hbw how) hg6 (by omega); have hstc := hst.1; obtain ⟨v6, hv6⟩ := hst.2; have z2 : Only (fun b => ¬ b = gp) w1 w6 := (z1.alloc _).trans (Only.of_grown (S := fun b => (Value.slice A5 m c5).ownBlock = some b) hg6 fun b e => .inl e) fun b e => .inl (hnw b e); have y6 := hS.out _ z2)
        | fail)
    all_goals
      go_wp2
    all_goals
      go_ret
      exact ⟨rfl, hP.out⟩
end
end Go.Proofs.YtkganajbilnanaaGreat
