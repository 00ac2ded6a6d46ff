/- disk: Write. Conditions: the device lies there; the bytes lie outside it. -/
import Derived.Test.YtnbbneldbagohaaDiskPlain
namespace Go.Proofs.Ytnbbneldbagohaa
open Go.ChangeShapes Go.WideShapes Go.ChangeAt Go.RowKit
set_option linter.unusedVariables false
set_option linter.unusedSimpArgs false
set_option maxRecDepth 20000

theorem row_info : (Try.prog.info? 28).map (fun i => (i.zero, i.size, i.bytes)) = some (some (.slice none 0 0), 1, 24) := by kernel_rfl
/-- what a call on a device leaves -/
def DevPost (D' : DevP) (F : Nat → Prop) (p : Value) (w w' : World) : Prop := IsDev D' w' (grow F w w') p ∧ Only F w w'
theorem DevPost.refl {D : DevP} {F : Nat → Prop} {p : Value} {w : World} (h : IsDev D w F p) : DevPost D F p w w := ⟨h.mono fun b q => .inl q, Only.refl _ _⟩
theorem BytesIn.only {w w' : World} {S T : Nat → Prop} {A : Option Addr} {l : List Nat} (h : BytesIn w T A l) (ho : Only S w w') (hd : ∀ b, T b → ¬ S b) : BytesIn w' T A l := h.stays (ho.stays hd)
section
variable {D : DevP} {w : World} {F : Nat → Prop} {gp : Nat} {s : Nat → Value} {lv : Value} {X : Nat → List Value}
theorem below_drew0 (w : World) : Below w.heap.size w w.drew := (Below.refl _ _).drew
theorem kept_below {w w' : World} (h : Below w.heap.size w w') {base : Nat} {e : TypeId} {s : Nat} {v : Value} {n : Nat} {xs : List Value} (ho : w.ownsRow base e s v n xs) : w'.ownsRow base e s v n xs := kept_none (below_none h) ho
theorem grow_trans {F : Nat → Prop} {w w1 w2 : World} (h : w.heap.size ≤ w1.heap.size) : ∀ b, grow F w1 w2 b → grow F w w2 b := fun b q => q.imp id fun z => ⟨by omega, z.2⟩
theorem hard_back {F : Nat → Prop} {w w1 : World} (hF : ∀ b, F b → b < w.heap.size) (h : Only (Hard F w) w w1) {b : Nat} (q : Hard F w1 b) : Hard F w b ∨ w.heap.size ≤ b :=
  .inl ⟨q.1, fun hu => q.2 (hu.only hu.lt h fun z => z.2 hu)⟩
/-- the sector's cell can be stored to, behind the append -/
theorem sector_store {w w' : World} {g m c c2 : Nat} {A : Option Addr} {X L : List Value} {j : Nat} (h : w.ownsRow 0 70 2 (.slice (some ⟨g, 0, none⟩) m c) m X) {m2 : Nat} (h2 : w.ownsRow 0 28 1 (.slice A m2 c2) m2 L) {o : Obj} (hg : (w.alloc o).grownBy w' (Value.slice A m2 c2).ownBlock) (hj : j < 2 * m) :
    w'.frozen? ⟨g, j, none⟩ = false ∧ ∃ v, w'.cell? ⟨g, j, none⟩ = some v := by
  have h3 := (kept_none (below_none ((Below.refl _ _).alloc (Nat.le_refl w.heap.size) o)) h).kept hg (own_apart (by decide) (kept_none (below_none ((Below.refl _ _).alloc (Nat.le_refl w.heap.size) o)) h) (kept_none (below_none ((Below.refl _ _).alloc (Nat.le_refl w.heap.size) o)) h2))
  refine ⟨h3.frozenAt j, ?_⟩
  have := h3.cellAt j (by omega)
  have hl := h3.1
  rw [List.getElem?_eq_getElem (by omega)] at this
  exact ⟨_, this⟩
/-- one more waits: the world behind the store -/
theorem DevAt.more {w1 w2 w3 : World} {A A2 A5 : Option Addr} {n k c c2 c4 c5 m : Nat} {L : List Value} {l : List Nat} (h : DevAt D w F gp s lv X) (hF : ∀ b, F b → b < w.heap.size) (hn : n < 2) (hk : k < (D.f n).length)
    {g : Nat} (es : s n = .slice (some ⟨g, 0, none⟩) (D.f n).length c) {lw : Value} (e1 : (X n)[2 * k]? = some lw) (e2 : (X n)[2 * k + 1]? = some (.slice A m c2)) (ht : Txt w F lw (D.f n)[k].last)
    (hm : (D.f n)[k].waits.length = m) (how : w.ownsRow 0 28 1 (.slice A m c2) m L) (hFw : ∀ b, (Value.slice A m c2).ownBlock = some b → F b) (hL : ∀ (j : Nat) (u : Value) (t : List Nat), L[j]? = some u → (D.f n)[k].waits[j]? = some t → Txt w F u t)
    (hb : Below w.heap.size w w1) (hc : w1.ownsRow w.heap.size 5 1 (.slice A2 128 c4) 128 (l.map byteV)) (hs : Small l) (hl : l.length = 128)
    (ho : w2.ownsRow 0 28 1 (.slice A5 (m + 1) c5) (m + 1) (L ++ [.slice A2 128 c4])) (hg : (w1.alloc (.cells #[.slice A2 128 c4] 28)).grownBy w2 (Value.slice A m c2).ownBlock)
    (hat : (Value.slice A5 (m + 1) c5).ownBlock = (Value.slice A m c2).ownBlock ∨ (Value.slice A5 (m + 1) c5).ownBlock = some (w1.alloc (.cells #[.slice A2 128 c4] 28)).heap.size)
    (e3 : w3 = w2.setCell ⟨g, 2 * k + 1, none⟩ (.slice A5 (m + 1) c5)) :
    DevAt (D.put n k ((D.f n)[k].more l)) w3 (grow F w w3) gp s lv (updX X n ((X n).set (2 * k + 1) (.slice A5 (m + 1) c5))) ∧ Only (Hard F w) w w3 := by
  have hba : Below w.heap.size w (w1.alloc (.cells #[.slice A2 128 c4] 28)) := hb.alloc hb.size _
  generalize ew1 : w1.alloc (.cells #[.slice A2 128 c4] 28) = wa at *
  have hsz1 := hba.size
  have hsz2 := hg.size
  have hsz3 : w3.heap.size = w2.heap.size := by rw [e3]; simp [World.setCell]
  have hgw : g < w.heap.size := by
    have := (h.file n hn).1.lt g (by rw [es]; rfl)
    exact this.2
  have hFg : F g := (h.file n hn).2.1 g (by rw [es]; rfl)
  -- the device in wa
  have ho1 : Only (fun _ => False) w wa := Only.of_below hba _
  have a1 : FilesBut 70 D.f wa F s X n k := (h.toFilesAt.only ho1 fun _ _ q => q).but n k
  have how1 : wa.ownsRow 0 28 1 (.slice A m c2) m L := ho1.own how fun _ _ q => q
  have ht1 := ht.only ho1 fun _ _ _ q => q
  have hL1 := fun j u t q q' => (hL j u t q q').only ho1 fun _ _ _ q => q
  have hc1 : wa.ownsRow w.heap.size 5 1 (.slice A2 128 c4) 128 (l.map byteV) := by
    rw [← ew1]
    exact kept_none (below_none ((Below.refl _ _).alloc (Nat.le_refl _) _)) hc
  -- .. in w2
  have ho2 : Only (fun b => (Value.slice A m c2).ownBlock = some b) wa w2 := Only.of_grown hg fun b e => .inl e
  have hu2 : ∀ b, F b → U8 wa b → ¬ (Value.slice A m c2).ownBlock = some b := fun b _ hb e => absurd ((own_ty how1 e).uniq hb) (by decide)
  have a2 : FilesBut 70 D.f w2 F s X n k := a1.wrote hn (by decide) e2 how1 hg
  have ht2 := ht1.only ho2 hu2
  have hL2 := fun j u t q q' => (hL1 j u t q q').only ho2 hu2
  have hc2 : w2.ownsRow w.heap.size 5 1 (.slice A2 128 c4) 128 (l.map byteV) := hc1.kept hg (own_apart (by decide) hc1 how1)
  have b2 : Blk w2 gp 67 #[s 0, s 1, lv, .bool D.halted] := (h.blk.only ho1 (fun q => q)).grown hg fun e => absurd ((own_ty how1 e.symm).uniq (h.blk.only ho1 fun q => q).ty) (by decide)
  have l2 : IsLeft w2 F lv D.left := by
    cases hleft : D.left with
    | none => have := h.left; rw [hleft] at this; exact this
    | some q =>
      have := h.left
      rw [hleft] at this
      obtain ⟨gl, q1, q2, q3, q4⟩ := this
      exact ⟨gl, q1, q2, (q3.only ho1 fun q => q).grown hg fun e => absurd ((own_ty how1 e.symm).uniq (q3.only ho1 fun q => q).ty) (by decide), q4⟩
  -- the new values
  have hFG : ∀ b, F b → grow F w w3 b := fun b q => .inl q
  have hnew : Txt w2 (grow F w w3) (.slice A2 128 c4) l := Txt.own hc2 hl hs fun b e => .inr ⟨(hc2.lt b e).1, by have := (hc2.lt b e).2; omega⟩
  have hown : ∀ b, (Value.slice A5 (m + 1) c5).ownBlock = some b → grow F w w3 b := fun b e => by
    rcases hat with q | q
    · exact .inl (hFw b (q.symm.trans e))
    · rw [q] at e
      injection e with e
      subst e
      exact .inr ⟨hsz1, by have := (ho.lt _ q).2; omega⟩
  have hWn : IsWaits w2 (grow F w w3) (.slice A5 (m + 1) c5) ((D.f n)[k].more l).waits := by
    refine ⟨L ++ [.slice A2 128 c4], by simp only [Sect.more, List.length_append, hm, List.length_singleton]; exact ho, hown, fun j u t hu ht' => ?_⟩
    have hLl : L.length = m := by have := how.1; omega
    rcases Nat.lt_trichotomy j m with q | q | q
    · rw [List.getElem?_append_left (by omega)] at hu
      simp only [Sect.more] at ht'
      rw [List.getElem?_append_left (by omega)] at ht'
      exact (hL2 j u t hu ht').mono fun b z _ => .inl z
    · subst q
      rw [List.getElem?_append_right (by omega), hLl] at hu
      simp only [Sect.more] at ht'
      rw [List.getElem?_append_right (by omega), hm] at ht'
      simp at hu ht'
      subst hu
      subst ht'
      exact hnew
    · rw [List.getElem?_eq_none (by simp; omega)] at hu
      cases hu
  have hrow2 : w2.ownsRow 0 70 2 (s n) (D.f n).length (X n) := (a2.row n hn).1
  rw [es] at hrow2
  have hst := (hrow2.stored (2 * k + 1) (.slice A5 (m + 1) c5)).1
  rw [← e3, ← es] at hst
  have hXl : (X n).length = 2 * (D.f n).length := by have := hrow2.1; omega
  have hone : Only (fun b => (s n).ownBlock = some b) w2 w3 := by
    rw [e3, es]
    exact (Only.refl (fun b => (Value.slice (some ⟨g, 0, none⟩) (D.f n).length c).ownBlock = some b) w2).setCell (p := ⟨g, 2 * k + 1, none⟩) (.inl rfl) _
  have hb3 : ∀ b, b ≠ g → w3.heap[b]? = w2.heap[b]? := fun b hb => by
    rw [e3]
    exact Below.heap_setCell w2 ⟨g, 2 * k + 1, none⟩ _ b hb
  have htyg : Ty w2 g 70 := own_ty hrow2 rfl
  have hgp : gp ≠ g := fun q => by subst q; exact absurd (b2.ty.uniq htyg) (by decide)
  refine ⟨⟨(a2.mono hFG).put hn (by decide) (by decide) hst (lv := lw) (wv := .slice A5 (m + 1) c5) ?_ ?_ ?_ hone (ht2.mono fun b q _ => .inl q) hWn ?_, ?_, .inl h.inF, ?_⟩, ?_⟩
  · rw [List.getElem?_set_ne (by omega)]
    exact e1
  · rw [List.getElem?_set_self (by omega)]
  · exact fun j h1 h2 => List.getElem?_set_ne (by omega)
  · intro m' i u hm' hne hu
    rcases h.apart m' i n k u _ hm' hn hne hu e2 with z | z
    · exact .inl z
    · cases hz : u.ownBlock with
      | none => exact .inl rfl
      | some b =>
        right; right
        intro q
        rcases hat with y | y
        · exact z (hz.trans (q.trans y))
        · rw [q.symm] at y
          injection y with y
          have : u.ownBlock = some b := hz
          have hub : b < w.heap.size := by
            have hX' := (h.file m' hm').1.1
            have hi : i < (D.f m').length := by
              have := (List.getElem?_eq_some_iff.1 hu).1
              omega
            obtain ⟨_, wv', _, q2, _, q4⟩ := (h.file m' hm').2.2 i _ (List.getElem?_eq_getElem hi)
            rw [hu] at q2
            injection q2 with q2
            subst q2
            obtain ⟨L', r1, _⟩ := q4
            exact (r1.lt b hz).2
          omega
  · show Blk w3 gp 67 #[s 0, s 1, lv, .bool D.halted]
    rw [e3]
    exact b2.far hgp _
  · show IsLeft w3 (grow F w w3) lv D.left
    refine IsLeft.mono ?_ hFG
    cases hleft : D.left with
    | none => rw [hleft] at l2; exact l2
    | some q =>
      rw [hleft] at l2
      obtain ⟨gl, q1, q2, q3, q4⟩ := l2
      refine ⟨gl, q1, q2, ?_, q4⟩
      rw [e3]
      exact q3.far (fun q => by subst q; exact absurd (q3.ty.uniq htyg) (by decide)) _
  · have hA : Only (Hard F w) w w2 := (ho1.mono (S' := Hard F w) fun _ q => q.elim).trans ho2 fun b q => by
      left
      refine ⟨hFw b q, fun hu => ?_⟩
      exact absurd ((own_ty how q).uniq hu) (by decide)
    rw [e3]
    refine hA.setCell (p := ⟨g, 2 * k + 1, none⟩) (.inl ⟨hFg, fun hu => ?_⟩) _
    have hr := (h.file n hn).1
    exact absurd ((own_ty hr (by rw [es]; rfl)).uniq hu) (by decide)
set_option maxHeartbeats 2000000 in
theorem write_some (h : IsDev D w F (.pointer (some ⟨gp, 0, none⟩))) (hF : ∀ b, F b → b < w.heap.size) {N : Nat} (hG : D.good N) (hN : N ≤ 100000) {n k : Nat} (hn : n < 2) (hk : k < (D.f n).length) (A : Option Addr) (c : Nat) (l : List Nat) (hl : BytesIn w (fun b => ¬ F b) A l) (h128 : l.length = 128) :
    Calls Try.prog 12 #[.pointer (some ⟨gp, 0, none⟩), .int .u8 n, .int .i64 k, .slice A l.length c] w fun e w' => e = .returned (.int .u16 0) ∧ DevPost (D.write n k l).2 F (.pointer (some ⟨gp, 0, none⟩)) w w' := by
  obtain ⟨gp', s, lv, X, e, h⟩ := h
  injection e with e
  injection e with e
  injection e with e
  subst e
  obtain ⟨i0, hi0, hz0, hz1, hz2⟩ := info_parts row_info
  obtain ⟨g, c1, lw, wv, es, q0, q1, ht, hW, hFg, hgw, x1, x2⟩ := sector_at h hn hk
  have ha := at_some h n hn k hk (hG n hn).1 es
  have hgo := goes_any h
  have hD : (D.write n k l).2 = if D.goes.1 then D.goes.2.put n k ((D.f n)[k].more l) else D.goes.2 := by
    unfold DevP.write
    have hh : D.has n (k : Int) := ⟨hn, by omega, by omega⟩
    rw [if_pos hh, if_pos h128, Int.toNat_natCast, DevP.sect_eq hk]
  rw [hD]
  clear hD
  have hne : ((l.length : Int) != 128) = false := by rw [h128]; rfl
  rw [h128] at hne ⊢
  cases hg : D.goes.1 with
  | false =>
    rw [hg] at hgo
    generalize D.goes.2 = D' at *
    clear h q0 q1 ht hW hG
    go_enter Try.func12, Try.ntmps12
    go_wp2_with fail
    refine ha.mono ?_
    rintro e w1 ⟨rfl, rfl⟩
    go_wp2_with fail
    refine hgo.mono ?_
    rintro e w1 ⟨rfl, h1, h2⟩
    have hfin : DevPost D' F (.pointer (some ⟨gp, 0, none⟩)) w w1 := ⟨⟨gp, s, lv, X, rfl, ⟨h1.toFilesAt.mono fun b q => .inl q, h1.blk, .inl h1.inF, h1.left.mono fun b q => .inl q⟩⟩, h2.mono fun b q => .inl q.1⟩
    clear h1 h2
    go_wp2
    go_ret
    exact ⟨rfl, hfin⟩
  | true =>
    rw [hg] at hgo
    have hgf := D.goes_f
    generalize hD' : D.goes.2 = D' at *
    have hGk := hG.at_ hn hk
    go_enter Try.func12, Try.ntmps12
    go_wp2_with fail
    refine ha.mono ?_
    rintro e w1 ⟨rfl, rfl⟩
    go_wp2_with fail
    refine hgo.mono ?_
    rintro e w1 ⟨rfl, h1, h2⟩
    obtain ⟨f0, left0, hal0⟩ := D'
    simp only at hgf
    subst hgf
    clear hD' hgo
    obtain ⟨g', c1', lw, wv, es', q0, q1, ht, hW, hFg, hgw, x1, x2⟩ := sector_at (D := ⟨D.f, left0, hal0⟩) h1 hn hk
    simp only at es' ht hW
    rw [es] at es'
    injection es' with e1 _ _
    injection e1 with e1
    injection e1 with e1 _
    subst e1
    obtain ⟨L, how, hFw, hTw⟩ := hW
    obtain ⟨A5, c5, rfl, -, -⟩ := own_form how
    have hmN := hGk.2.1
    obtain ⟨m, hm⟩ : ∃ m, (D.f n)[k].waits.length = m := ⟨_, rfl⟩
    rw [hm] at how hFw q1 hmN x2
    have HM := Lib.hid hm
    clear hm
    have hF1 : ∀ b, F b → b < w1.heap.size := fun b q => Nat.lt_of_lt_of_le (hF b q) h2.size
    have hfr : w1.frozen? ⟨g, 2 * k + 1, none⟩ = false := by
      have := (h1.file n hn).1
      rw [es] at this
      exact this.frozenAt _
    have hl1 := (hl.only h2 fun b q q' => q q'.1).bytes
    have hcl : Calls Try.prog 34 #[.slice A 128 c] w1.drew (RetBytes 5 l w1.drew) := by
      have := clone_any A c l w1.heap.size w1.drew hl1 (Nat.le_refl _) (by omega)
      rw [h128] at this
      exact this
    have hrow0 : w1.ownsRow 0 70 2 (.slice (some ⟨g, 0, none⟩) (D.f n).length c1) (D.f n).length (X n) := by
      have := (h1.file n hn).1
      rw [es] at this
      exact this
    have hls : Small l := hl.2
    have hkj : 2 * k + 1 < 2 * (D.f n).length := by omega
    clear hl hl1 q0 h hW hGk ha
    have post : ∀ (Ac : Option Addr) (cc : Nat) (wc : World) (A6 : Option Addr) (c6 : Nat) (w6 : World), wc.ownsRow w1.heap.size 5 1 (.slice Ac 128 cc) 128 (l.map byteV) → Below w1.heap.size w1.drew wc →
        w6.ownsRow 0 28 1 (.slice A6 (m + 1) c6) (m + 1) (L ++ [.slice Ac 128 cc]) → (wc.alloc (.cells #[.slice Ac 128 cc] 28)).grownBy w6 (Value.slice A5 m c5).ownBlock →
        ((Value.slice A6 (m + 1) c6).ownBlock = (Value.slice A5 m c5).ownBlock ∨ (Value.slice A6 (m + 1) c6).ownBlock = some (wc.alloc (.cells #[.slice Ac 128 cc] 28)).heap.size) →
        DevPost ((⟨D.f, left0, hal0⟩ : DevP).put n k ((D.f n)[k].more l)) F (.pointer (some ⟨gp, 0, none⟩)) w (w6.setCell ⟨g, 2 * k + 1, none⟩ (.slice A6 (m + 1) c6)) := fun Ac cc wc A6 c6 w6 hc1 hb1 ho6 hg6 hat6 => by
      have hbw : Below w1.heap.size w1 wc := (below_drew0 w1).trans hb1
      have := DevAt.more (D := ⟨D.f, left0, hal0⟩) h1 hF1 hn hk es x1 x2 ht HM.out how hFw hTw hbw hc1 hls h128 ho6 hg6 hat6 rfl
      exact ⟨⟨gp, s, lv, _, rfl, ⟨this.1.toFilesAt.mono (grow_trans h2.size), this.1.blk, grow_trans h2.size _ this.1.inF, this.1.left.mono (grow_trans h2.size)⟩⟩, (h2.trans this.2 fun b q => hard_back hF h2 q).mono fun b q => .inl q.1⟩
    have POST := Lib.hid post
    clear post ht hTw x1 x2 hF1 hF h2 h1 es HM
    go_wp2_with fail
    go_region_law
      (first
        | (go_simp; go_at_call 34; refine hcl.mono ?_; intro e wc hret; obtain ⟨Ac, cc, rfl, hc1, hb1, -⟩ := hret; rw [h128] at hc1 ⊢; have hbw : Below w1.heap.size w1 wc := (below_drew0 w1).trans hb1; have qc : wc.cell? ⟨g, 2 * k + 1, none⟩ = some (.slice A5 m c5) := (hbw.cell (p := ⟨g, 2 * k + 1, none⟩) hgw).trans q1; have hzc := hbw.size; have qa : ∀ o, (wc.alloc o).cell? ⟨g, 2 * k + 1, none⟩ = some (.slice A5 m c5) := fun o => (((Below.refl wc.heap.size wc).alloc (Nat.le_refl _) o).cell (p := ⟨g, 2 * k + 1, none⟩) (Nat.lt_of_lt_of_le hgw hzc)).trans qc)
        | (have k4 := kept_below ((Below.refl wc.heap.size wc).alloc (Nat.le_refl _) (.cells #[.slice Ac 128 cc] 28)) (kept_below hbw how); refine step_append_at (by rfl) _ _ 22 22 (by rfl) 0 28 i0 _ 24 Try.underlying22 Try.underlying22 hi0 hz0 hz1 hz2 rfl (.slice A5 m c5) m L (by rfl) k4 (wc.heap.size + 1) (some ⟨wc.heap.size, 0, none⟩) 1 1 [.slice Ac 128 cc] (by rfl) rfl (At.new wc [.slice Ac 128 cc] 28 (0, 0)) (by simp [Value.oneCell']) (by unfold maxLen; omega) (by omega) (Nat.zero_le _) ?_; intro A6 c6 w6 hown6 hg6 hat6; have hP := Lib.hid (POST.out Ac cc wc A6 c6 w6 hc1 hb1 hown6 hg6 hat6); have hst := sector_store (j := 2 * k + 1) (kept_below hbw hrow0) (kept_below hbw how) hg6 hkj; have hstc := hst.1; obtain ⟨v6, hv6⟩ := hst.2))
    all_goals
      go_wp2
    all_goals
      go_ret
      exact ⟨rfl, hP.out⟩
theorem write_arg (h : IsDev D w F (.pointer (some ⟨gp, 0, none⟩))) {n k : Nat} (hn : n < 2) (hk : k < (D.f n).length) (hL : (D.f n).length ≤ 4096) (A : Option Addr) (c m : Nat) (hm : m ≠ 128) :
    Calls Try.prog 12 #[.pointer (some ⟨gp, 0, none⟩), .int .u8 n, .int .i64 k, .slice A m c] w fun e w' => e = .returned (.int .u16 1) ∧ w = w' := by
  obtain ⟨gp', s, lv, X, e, h⟩ := h
  injection e with e
  injection e with e
  injection e with e
  subst e
  obtain ⟨g, c1, lw, wv, es, -⟩ := sector_at h hn hk
  have ha := at_some h n hn k hk hL es
  have hne : ((m : Int) != 128) = true := by rw [bne_iff_ne]; omega
  clear h
  go_enter Try.func12, Try.ntmps12
  go_wp2_with fail
  refine ha.mono ?_
  rintro e w1 ⟨rfl, rfl⟩
  go_wp2
  go_ret
  exact ⟨rfl, rfl⟩
theorem write_none (h : IsDev D w F (.pointer (some ⟨gp, 0, none⟩))) (n : Nat) (hn : n < 256) (i : Int) (hi : ¬ D.has n i) (A : Option Addr) (c m : Nat) :
    Calls Try.prog 12 #[.pointer (some ⟨gp, 0, none⟩), .int .u8 n, .int .i64 i, .slice A m c] w fun e w' => e = .returned (.int .u16 50) ∧ w = w' := by
  obtain ⟨gp', s, lv, X, e, h⟩ := h
  injection e with e
  injection e with e
  injection e with e
  subst e
  have ha := at_none h n hn i hi
  clear h
  go_enter Try.func12, Try.ntmps12
  go_wp2_with fail
  refine ha.mono ?_
  rintro e w1 ⟨rfl, rfl⟩
  go_wp2
  go_ret
  exact ⟨rfl, rfl⟩
end
/-- Write, whatever is asked -/
theorem write_any {D : DevP} {w : World} {F : Nat → Prop} {p : Value} (h : IsDev D w F p) (hF : ∀ b, F b → b < w.heap.size) {N : Nat} (hG : D.good N) (hN : N ≤ 100000) (n : Nat) (hn : n < 256) (i : Int) (A : Option Addr) (c : Nat) (l : List Nat) (hl : BytesIn w (fun b => ¬ F b) A l) :
    Calls Try.prog 12 #[p, .int .u8 n, .int .i64 i, .slice A l.length c] w fun e w' => e = .returned (.int .u16 ((D.write n i l).1 : Nat)) ∧ DevPost (D.write n i l).2 F p w w' := by
  have hp := h
  obtain ⟨gp, s, lv, X, rfl, h'⟩ := hp
  by_cases hh : D.has n i
  · obtain ⟨h1, h2, h3⟩ := hh
    obtain ⟨k, rfl⟩ := Int.eq_ofNat_of_zero_le h2
    have hk : k < (D.f n).length := by omega
    by_cases hl8 : l.length = 128
    · have e1 : (D.write n (k : Nat) l).1 = 0 := by
        unfold DevP.write
        rw [if_pos ⟨h1, h2, h3⟩, if_pos hl8]
      rw [e1]
      exact write_some h hF hG hN h1 hk A c l hl hl8
    · have e1 : D.write n (k : Nat) l = (1, D) := by
        unfold DevP.write
        rw [if_pos ⟨h1, h2, h3⟩, if_neg hl8]
      rw [e1]
      refine (write_arg h h1 hk (hG n h1).1 A c l.length hl8).mono ?_
      rintro e w' ⟨rfl, rfl⟩
      exact ⟨rfl, DevPost.refl h⟩
  · have e1 : D.write n i l = (50, D) := by
      unfold DevP.write
      rw [if_neg hh]
    rw [e1]
    refine (write_none h n hn i hh A c l.length).mono ?_
    rintro e w' ⟨rfl, rfl⟩
    exact ⟨rfl, DevPost.refl h⟩
end Go.Proofs.Ytnbbneldbagohaa
