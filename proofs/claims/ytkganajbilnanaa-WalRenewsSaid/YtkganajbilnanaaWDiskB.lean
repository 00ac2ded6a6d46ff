/- disk: Write. Conditions: the device lies there; the bytes lie outside it. -/
import Derived.Test.YtkganajbilnanaaWDiskA
import Derived.Test.YtkganajbilnanaaWBase
import Derived.Maps.AppendAt
import Derived.Laws.CopyOwn
namespace Go.Proofs.Ytkganajbilnanaa
open Go.ChangeShapes Go.WideShapes Go.ChangeAt Go.RowKit
set_option linter.unusedVariables false
set_option linter.unusedSimpArgs false
set_option maxRecDepth 20000

theorem row_info : (Try.prog.info? 26).map (fun i => (i.zero, i.size, i.bytes)) = some (some (.slice none 0 0), 1, 24) := by kernel_rfl
/-- what a call on a device leaves -/
def DevPost (D' : DevP) (F : Nat → Prop) (p : Value) (w w' : World) : Prop := IsDev D' w' (grow F w w') p ∧ Only F w w'
theorem DevPost.refl {D : DevP} {F : Nat → Prop} {p : Value} {w : World} (h : IsDev D w F p) : DevPost D F p w w := ⟨h.mono fun b q => .inl q, Only.refl _ _⟩
theorem BytesIn.only {w w' : World} {S T : Nat → Prop} {A : Option Addr} {l : List Nat} (h : BytesIn w T A l) (ho : Only S w w') (hd : ∀ b, T b → ¬ S b) : BytesIn w' T A l := h.stays (ho.stays hd)
section
variable {D : DevP} {w : World} {F : Nat → Prop} {gp : Nat} {s : Nat → Value} {lv : Value} {X : Nat → List Value}
theorem kept_below {w w' : World} (h : Below w.heap.size w w') {base : Nat} {e : TypeId} {s : Nat} {v : Value} {n : Nat} {xs : List Value} (ho : w.ownsRow base e s v n xs) : w'.ownsRow base e s v n xs := kept_none (below_none h) ho
theorem grow_trans {F : Nat → Prop} {w w1 w2 : World} (h : w.heap.size ≤ w1.heap.size) : ∀ b, grow F w1 w2 b → grow F w w2 b := fun b q => q.imp id fun z => ⟨by omega, z.2⟩
theorem hard_back {F : Nat → Prop} {w w1 : World} (hF : ∀ b, F b → b < w.heap.size) (h : Only (Hard F w) w w1) {b : Nat} (q : Hard F w1 b) : Hard F w b ∨ w.heap.size ≤ b :=
  .inl ⟨q.1, fun hu => q.2 (hu.only hu.lt h fun z => z.2 hu)⟩
/-- the sector's cell can be stored to, behind the append -/
theorem sector_store {w w' : World} {g m c c2 : Nat} {A : Option Addr} {X L : List Value} {j : Nat} (h : w.ownsRow 0 90 2 (.slice (some ⟨g, 0, none⟩) m c) m X) {m2 : Nat} (h2 : w.ownsRow 0 26 1 (.slice A m2 c2) m2 L) {o : Obj} (hg : (w.alloc o).grownBy w' (Value.slice A m2 c2).ownBlock) (hj : j < 2 * m) :
    w'.frozen? ⟨g, j, none⟩ = false ∧ ∃ v, w'.cell? ⟨g, j, none⟩ = some v := by
  have h3 := (kept_none (below_none ((Below.refl _ _).alloc (Nat.le_refl w.heap.size) o)) h).kept hg (own_apart (by decide) (kept_none (below_none ((Below.refl _ _).alloc (Nat.le_refl w.heap.size) o)) h) (kept_none (below_none ((Below.refl _ _).alloc (Nat.le_refl w.heap.size) o)) h2))
  refine ⟨h3.frozenAt j, ?_⟩
  have := h3.cellAt j (by omega)
  have hl := h3.1
  rw [List.getElem?_eq_getElem (by omega)] at this
  exact ⟨_, this⟩
/-- one more waits: the world behind the store -/
theorem DevAt.more {w1 w2 w3 : World} {A A2 A5 : Option Addr} {n k c c2 c4 c5 m : Nat} {L : List Value} {l : List Nat} (h : DevAt D w F gp s lv X) (hF : ∀ b, F b → b < w.heap.size) (hn : n < 2) (hk : k < (D.f n).length)
    {g : Nat} (es : s n = .slice (some ⟨g, 0, none⟩) (D.f n).length c) {lw : Value} (e1 : (X n)[2 * k]? = some lw) (e2 : (X n)[2 * k + 1]? = some (.slice A m c2)) (ht : Txt w F lw (D.f n)[k].last)
    (hm : (D.f n)[k].waits.length = m) (how : w.ownsRow 0 26 1 (.slice A m c2) m L) (hFw : ∀ b, (Value.slice A m c2).ownBlock = some b → F b) (hL : ∀ (j : Nat) (u : Value) (t : List Nat), L[j]? = some u → (D.f n)[k].waits[j]? = some t → Txt w F u t)
    (hb : Below w.heap.size w w1) (hc : w1.ownsRow w.heap.size 5 1 (.slice A2 128 c4) 128 (l.map byteV)) (hs : Small l) (hl : l.length = 128)
    (ho : w2.ownsRow 0 26 1 (.slice A5 (m + 1) c5) (m + 1) (L ++ [.slice A2 128 c4])) (hg : (w1.alloc (.cells #[.slice A2 128 c4] 26)).grownBy w2 (Value.slice A m c2).ownBlock)
    (hat : (Value.slice A5 (m + 1) c5).ownBlock = (Value.slice A m c2).ownBlock ∨ (Value.slice A5 (m + 1) c5).ownBlock = some (w1.alloc (.cells #[.slice A2 128 c4] 26)).heap.size)
    (e3 : w3 = w2.setCell ⟨g, 2 * k + 1, none⟩ (.slice A5 (m + 1) c5)) :
    DevAt (D.put n k ((D.f n)[k].more l)) w3 (grow F w w3) gp s lv (updX X n ((X n).set (2 * k + 1) (.slice A5 (m + 1) c5))) ∧ Only (Hard F w) w w3 := by
  have hba : Below w.heap.size w (w1.alloc (.cells #[.slice A2 128 c4] 26)) := hb.alloc hb.size _
  generalize ew1 : w1.alloc (.cells #[.slice A2 128 c4] 26) = wa at *
  have hsz1 := hba.size
  have hsz2 := hg.size
  have hsz3 : w3.heap.size = w2.heap.size := by rw [e3]; simp [World.setCell]
  have hgw : g < w.heap.size := by
    have := (h.file n hn).1.lt g (by rw [es]; rfl)
    exact this.2
  have hFg : F g := (h.file n hn).2.1 g (by rw [es]; rfl)
  -- the device in wa
  have ho1 : Only (fun _ => False) w wa := Only.of_below hba _
  have a1 : FilesBut 90 D.f wa F s X n k := (h.toFilesAt.only ho1 fun _ _ q => q).but n k
  have how1 : wa.ownsRow 0 26 1 (.slice A m c2) m L := ho1.own how fun _ _ q => q
  have ht1 := ht.only ho1 fun _ _ _ q => q
  have hL1 := fun j u t q q' => (hL j u t q q').only ho1 fun _ _ _ q => q
  have hc1 : wa.ownsRow w.heap.size 5 1 (.slice A2 128 c4) 128 (l.map byteV) := by
    rw [← ew1]
    exact kept_none (below_none ((Below.refl _ _).alloc (Nat.le_refl _) _)) hc
  -- .. in w2
  have ho2 : Only (fun b => (Value.slice A m c2).ownBlock = some b) wa w2 := Only.of_grown hg fun b e => .inl e
  have hu2 : ∀ b, F b → U8 wa b → ¬ (Value.slice A m c2).ownBlock = some b := fun b _ hb e => absurd ((own_ty how1 e).uniq hb) (by decide)
  have a2 : FilesBut 90 D.f w2 F s X n k := a1.wrote hn (by decide) e2 how1 hg
  have ht2 := ht1.only ho2 hu2
  have hL2 := fun j u t q q' => (hL1 j u t q q').only ho2 hu2
  have hc2 : w2.ownsRow w.heap.size 5 1 (.slice A2 128 c4) 128 (l.map byteV) := hc1.kept hg (own_apart (by decide) hc1 how1)
  have b2 : Blk w2 gp 83 #[s 0, s 1, lv, .bool D.halted] := (h.blk.only ho1 (fun q => q)).grown hg fun e => absurd ((own_ty how1 e.symm).uniq (h.blk.only ho1 fun q => q).ty) (by decide)
  have l2 : IsLeft w2 F lv D.left := by
    cases hleft : D.left with
    | none => have := h.left; rw [hleft] at this; exact this
    | some q =>
      have := h.left
      rw [hleft] at this
      obtain ⟨gl, q1, q2, q3, q4⟩ := this
      exact ⟨gl, q1, q2, (q3.only ho1 fun q => q).grown hg fun e => absurd ((own_ty how1 e.symm).uniq (q3.only ho1 fun q => q).ty) (by decide), q4⟩
  -- the new values
  have hFG : ∀ b, F b → grow F w w3 b := fun b q => .inl q
  have hnew : Txt w2 (grow F w w3) (.slice A2 128 c4) l := Txt.own hc2 hl hs fun b e => .inr ⟨(hc2.lt b e).1, by have := (hc2.lt b e).2; omega⟩
  have hown : ∀ b, (Value.slice A5 (m + 1) c5).ownBlock = some b → grow F w w3 b := fun b e => by
    rcases hat with q | q
    · exact .inl (hFw b (q.symm.trans e))
    · rw [q] at e
      injection e with e
      subst e
      exact .inr ⟨hsz1, by have := (ho.lt _ q).2; omega⟩
  have hWn : IsWaits w2 (grow F w w3) (.slice A5 (m + 1) c5) ((D.f n)[k].more l).waits := by
    refine ⟨L ++ [.slice A2 128 c4], by simp only [Sect.more, List.length_append, hm, List.length_singleton]; exact ho, hown, fun j u t hu ht' => ?_⟩
    have hLl : L.length = m := by have := how.1; omega
    rcases Nat.lt_trichotomy j m with q | q | q
    · rw [List.getElem?_append_left (by omega)] at hu
      simp only [Sect.more] at ht'
      rw [List.getElem?_append_left (by omega)] at ht'
      exact (hL2 j u t hu ht').mono fun b z _ => .inl z
    · subst q
      rw [List.getElem?_append_right (by omega), hLl] at hu
      simp only [Sect.more] at ht'
      rw [List.getElem?_append_right (by omega), hm] at ht'
      simp at hu ht'
      subst hu
      subst ht'
      exact hnew
    · rw [List.getElem?_eq_none (by simp; omega)] at hu
      cases hu
  have hrow2 : w2.ownsRow 0 90 2 (s n) (D.f n).length (X n) := (a2.row n hn).1
  rw [es] at hrow2
  have hst := (hrow2.stored (2 * k + 1) (.slice A5 (m + 1) c5)).1
  rw [← e3, ← es] at hst
  have hXl : (X n).length = 2 * (D.f n).length := by have := hrow2.1; omega
  have hone : Only (fun b => (s n).ownBlock = some b) w2 w3 := by
    rw [e3, es]
    exact (Only.refl (fun b => (Value.slice (some ⟨g, 0, none⟩) (D.f n).length c).ownBlock = some b) w2).setCell (p := ⟨g, 2 * k + 1, none⟩) (.inl rfl) _
  have hb3 : ∀ b, b ≠ g → w3.heap[b]? = w2.heap[b]? := fun b hb => by
    rw [e3]
    exact Below.heap_setCell w2 ⟨g, 2 * k + 1, none⟩ _ b hb
  have htyg : Ty w2 g 90 := own_ty hrow2 rfl
  have hgp : gp ≠ g := fun q => by subst q; exact absurd (b2.ty.uniq htyg) (by decide)
  refine ⟨⟨(a2.mono hFG).put hn (by decide) (by decide) hst (lv := lw) (wv := .slice A5 (m + 1) c5) ?_ ?_ ?_ hone (ht2.mono fun b q _ => .inl q) hWn ?_, ?_, .inl h.inF, ?_⟩, ?_⟩
  · rw [List.getElem?_set_ne (by omega)]
    exact e1
  · rw [List.getElem?_set_self (by omega)]
  · exact fun j h1 h2 => List.getElem?_set_ne (by omega)
  · intro m' i u hm' hne hu
    rcases h.apart m' i n k u _ hm' hn hne hu e2 with z | z
    · exact .inl z
    · cases hz : u.ownBlock with
      | none => exact .inl rfl
      | some b =>
        right; right
        intro q
        rcases hat with y | y
        · exact z (hz.trans (q.trans y))
        · rw [q.symm] at y
          injection y with y
          have : u.ownBlock = some b := hz
          have hub : b < w.heap.size := by
            have hX' := (h.file m' hm').1.1
            have hi : i < (D.f m').length := by
              have := (List.getElem?_eq_some_iff.1 hu).1
              omega
            obtain ⟨_, wv', _, q2, _, q4⟩ := (h.file m' hm').2.2 i _ (List.getElem?_eq_getElem hi)
            rw [hu] at q2
            injection q2 with q2
            subst q2
            obtain ⟨L', r1, _⟩ := q4
            exact (r1.lt b hz).2
          omega
  · show Blk w3 gp 83 #[s 0, s 1, lv, .bool D.halted]
    rw [e3]
    exact b2.far hgp _
  · show IsLeft w3 (grow F w w3) lv D.left
    refine IsLeft.mono ?_ hFG
    cases hleft : D.left with
    | none => rw [hleft] at l2; exact l2
    | some q =>
      rw [hleft] at l2
      obtain ⟨gl, q1, q2, q3, q4⟩ := l2
      refine ⟨gl, q1, q2, ?_, q4⟩
      rw [e3]
      exact q3.far (fun q => by subst q; exact absurd (q3.ty.uniq htyg) (by decide)) _
  · have hA : Only (Hard F w) w w2 := (ho1.mono (S' := Hard F w) fun _ q => q.elim).trans ho2 fun b q => by
      left
      refine ⟨hFw b q, fun hu => ?_⟩
      exact absurd ((own_ty how q).uniq hu) (by decide)
    rw [e3]
    refine hA.setCell (p := ⟨g, 2 * k + 1, none⟩) (.inl ⟨hFg, fun hu => ?_⟩) _
    have hr := (h.file n hn).1
    exact absurd ((own_ty hr (by rw [es]; rfl)).uniq hu) (by decide)
set_option maxHeartbeats 2000000 in
theorem write_some (h : IsDev D w F (.pointer (some ⟨gp, 0, none⟩))) (hF : ∀ b, F b → b < w.heap.size) {N : Nat} (hG : D.good N) (hN : N ≤ 100000) {n k : Nat} (hn : n < 2) (hk : k < (D.f n).length) (A : Option Addr) (c : Nat) (l : List Nat) (hl : BytesIn w (fun b => ¬ F b) A l) (h128 : l.length = 128) :
    Calls Try.prog 63 #[.pointer (some ⟨gp, 0, none⟩), .int .u8 n, .int .i64 k, .slice A l.length c] w fun e w' => e = .returned (.int .u16 0) ∧ DevPost (D.write n k l).2 F (.pointer (some ⟨gp, 0, none⟩)) w w' := by
  obtain ⟨gp', s, lv, X, e, h⟩ := h
  injection e with e
  injection e with e
  injection e with e
  subst e
  obtain ⟨i0, hi0, hz0, hz1, hz2⟩ := info_parts row_info
  obtain ⟨g, c1, lw, wv, es, q0, q1, ht, hW, hFg, hgw, x1, x2⟩ := sector_at h hn hk
  have ha := at_some h n hn k hk (hG n hn).1 es
  have hgo := goes_any h
  have hD : (D.write n k l).2 = if D.goes.1 then D.goes.2.put n k ((D.f n)[k].more l) else D.goes.2 := by
    unfold DevP.write
    have hh : D.has n (k : Int) := ⟨hn, by omega, by omega⟩
    rw [if_pos hh, if_pos h128, Int.toNat_natCast, DevP.sect_eq hk]
  rw [hD]
  clear hD
  have hne : ((l.length : Int) != 128) = false := by rw [h128]; rfl
  rw [h128] at hne ⊢
  cases hg : D.goes.1 with
  | false =>
    rw [hg] at hgo
    generalize D.goes.2 = D' at *
    clear h q0 q1 ht hW hG
    go_enter Try.func63, Try.ntmps63
    go_wp2_with fail
    refine ha.mono ?_
    rintro e w1 ⟨rfl, rfl⟩
    go_wp2_with fail
    refine hgo.mono ?_
    rintro e w1 ⟨rfl, h1, h2⟩
    have hfin : DevPost D' F (.pointer (some ⟨gp, 0, none⟩)) w w1 := ⟨⟨gp, s, lv, X, rfl, ⟨h1.toFilesAt.mono fun b q => .inl q, h1.blk, .inl h1.inF, h1.left.mono fun b q => .inl q⟩⟩, h2.mono fun b q => .inl q.1⟩
    clear h1 h2
    go_wp2
    go_ret
    exact ⟨rfl, hfin⟩
  | true =>
    rw [hg] at hgo
    have hgf := D.goes_f
    generalize hD' : D.goes.2 = D' at *
    have hGk := hG.at_ hn hk
    go_enter Try.func63, Try.ntmps63
    go_wp2_with fail
    refine ha.mono ?_
    rintro e w1 ⟨rfl, rfl⟩
    go_wp2_with fail
    refine hgo.mono ?_
    rintro e w1 ⟨rfl, h1, h2⟩
    obtain ⟨f0, left0, hal0⟩ := D'
    simp only at hgf
    subst hgf
    clear hD' hgo
    obtain ⟨g', c1', lw, wv, es', q0, q1, ht, hW, hFg, hgw, x1, x2⟩ := sector_at (D := ⟨D.f, left0, hal0⟩) h1 hn hk
    simp only at es' ht hW
    rw [es] at es'
    injection es' with e1 _ _
    injection e1 with e1
    injection e1 with e1 _
    subst e1
    obtain ⟨L, how, hFw, hTw⟩ := hW
    obtain ⟨A5, c5, rfl, -, -⟩ := own_form how
    have hmN := hGk.2.1
    obtain ⟨m, hm⟩ : ∃ m, (D.f n)[k].waits.length = m := ⟨_, rfl⟩
    rw [hm] at how hFw q1 hmN x2
    have HM := Lib.hid hm
    clear hm
    have hF1 : ∀ b, F b → b < w1.heap.size := fun b q => Nat.lt_of_lt_of_le (hF b q) h2.size
    have hfr : w1.frozen? ⟨g, 2 * k + 1, none⟩ = false := by
      have := (h1.file n hn).1
      rw [es] at this
      exact this.frozenAt _
    have hl1 := (hl.only h2 fun b q q' => q q'.1).bytes
    have hcl : Calls Try.prog 56 #[.slice A 128 c] w1.drew (RetBytes 5 l w1.drew) := by
      have := clone_any A c l w1.heap.size w1.drew hl1 (Nat.le_refl _) (by omega)
      rw [h128] at this
      exact this
    have hrow0 : w1.ownsRow 0 90 2 (.slice (some ⟨g, 0, none⟩) (D.f n).length c1) (D.f n).length (X n) := by
      have := (h1.file n hn).1
      rw [es] at this
      exact this
    have hls : Small l := hl.2
    have hkj : 2 * k + 1 < 2 * (D.f n).length := by omega
    clear hl hl1 q0 h hW hGk ha
    have post : ∀ (Ac : Option Addr) (cc : Nat) (wc : World) (A6 : Option Addr) (c6 : Nat) (w6 : World), wc.ownsRow w1.heap.size 5 1 (.slice Ac 128 cc) 128 (l.map byteV) → Below w1.heap.size w1.drew wc →
        w6.ownsRow 0 26 1 (.slice A6 (m + 1) c6) (m + 1) (L ++ [.slice Ac 128 cc]) → (wc.alloc (.cells #[.slice Ac 128 cc] 26)).grownBy w6 (Value.slice A5 m c5).ownBlock →
        ((Value.slice A6 (m + 1) c6).ownBlock = (Value.slice A5 m c5).ownBlock ∨ (Value.slice A6 (m + 1) c6).ownBlock = some (wc.alloc (.cells #[.slice Ac 128 cc] 26)).heap.size) →
        DevPost ((⟨D.f, left0, hal0⟩ : DevP).put n k ((D.f n)[k].more l)) F (.pointer (some ⟨gp, 0, none⟩)) w (w6.setCell ⟨g, 2 * k + 1, none⟩ (.slice A6 (m + 1) c6)) := fun Ac cc wc A6 c6 w6 hc1 hb1 ho6 hg6 hat6 => by
      have hbw : Below w1.heap.size w1 wc := (below_drew0 w1).trans hb1
      have := DevAt.more (D := ⟨D.f, left0, hal0⟩) h1 hF1 hn hk es x1 x2 ht HM.out how hFw hTw hbw hc1 hls h128 ho6 hg6 hat6 rfl
      exact ⟨⟨gp, s, lv, _, rfl, ⟨this.1.toFilesAt.mono (grow_trans h2.size), this.1.blk, grow_trans h2.size _ this.1.inF, this.1.left.mono (grow_trans h2.size)⟩⟩, (h2.trans this.2 fun b q => hard_back hF h2 q).mono fun b q => .inl q.1⟩
    have POST := Lib.hid post
    clear post ht hTw x1 x2 hF1 hF h2 h1 es HM
    go_wp2_with fail
    go_region_law
      (first
        | (go_simp; go_at_call 56; refine hcl.mono ?_; intro e wc hret; obtain ⟨Ac, cc, rfl, hc1, hb1, -⟩ := hret; rw [h128] at hc1 ⊢; have hbw : Below w1.heap.size w1 wc := (below_drew0 w1).trans hb1; have qc : wc.cell? ⟨g, 2 * k + 1, none⟩ = some (.slice A5 m c5) := (hbw.cell (p := ⟨g, 2 * k + 1, none⟩) hgw).trans q1; have hzc := hbw.size; have qa : ∀ o, (wc.alloc o).cell? ⟨g, 2 * k + 1, none⟩ = some (.slice A5 m c5) := fun o => (((Below.refl wc.heap.size wc).alloc (Nat.le_refl _) o).cell (p := ⟨g, 2 * k + 1, none⟩) (Nat.lt_of_lt_of_le hgw hzc)).trans qc)
        | (have k4 := kept_below ((Below.refl wc.heap.size wc).alloc (Nat.le_refl _) (.cells #[.slice Ac 128 cc] 26)) (kept_below hbw how); refine step_append_at (by rfl) _ _ 88 88 (by rfl) 0 26 i0 _ 24 Try.underlying88 Try.underlying88 hi0 hz0 hz1 hz2 rfl (.slice A5 m c5) m L (by rfl) k4 (wc.heap.size + 1) (some ⟨wc.heap.size, 0, none⟩) 1 1 [.slice Ac 128 cc] (by rfl) rfl (At.new wc [.slice Ac 128 cc] 26 (0, 0)) (by simp [Value.oneCell']) (by unfold maxLen; omega) (by omega) (Nat.zero_le _) ?_; intro A6 c6 w6 hown6 hg6 hat6; have hP := Lib.hid (POST.out Ac cc wc A6 c6 w6 hc1 hb1 hown6 hg6 hat6); have hst := sector_store (j := 2 * k + 1) (kept_below hbw hrow0) (kept_below hbw how) hg6 hkj; have hstc := hst.1; obtain ⟨v6, hv6⟩ := hst.2))
    all_goals
      go_wp2
    all_goals
      go_ret
      exact ⟨rfl, hP.out⟩
theorem write_arg (h : IsDev D w F (.pointer (some ⟨gp, 0, none⟩))) {n k : Nat} (hn : n < 2) (hk : k < (D.f n).length) (hL : (D.f n).length ≤ 4096) (A : Option Addr) (c m : Nat) (hm : m ≠ 128) :
    Calls Try.prog 63 #[.pointer (some ⟨gp, 0, none⟩), .int .u8 n, .int .i64 k, .slice A m c] w fun e w' => e = .returned (.int .u16 1) ∧ w = w' := by
  obtain ⟨gp', s, lv, X, e, h⟩ := h
  injection e with e
  injection e with e
  injection e with e
  subst e
  obtain ⟨g, c1, lw, wv, es, -⟩ := sector_at h hn hk
  have ha := at_some h n hn k hk hL es
  have hne : ((m : Int) != 128) = true := by rw [bne_iff_ne]; omega
  clear h
  go_enter Try.func63, Try.ntmps63
  go_wp2_with fail
  refine ha.mono ?_
  rintro e w1 ⟨rfl, rfl⟩
  go_wp2
  go_ret
  exact ⟨rfl, rfl⟩
theorem write_none (h : IsDev D w F (.pointer (some ⟨gp, 0, none⟩))) (n : Nat) (hn : n < 256) (i : Int) (hi : ¬ D.has n i) (A : Option Addr) (c m : Nat) :
    Calls Try.prog 63 #[.pointer (some ⟨gp, 0, none⟩), .int .u8 n, .int .i64 i, .slice A m c] w fun e w' => e = .returned (.int .u16 50) ∧ w = w' := by
  obtain ⟨gp', s, lv, X, e, h⟩ := h
  injection e with e
  injection e with e
  injection e with e
  subst e
  have ha := at_none h n hn i hi
  clear h
  go_enter Try.func63, Try.ntmps63
  go_wp2_with fail
  refine ha.mono ?_
  rintro e w1 ⟨rfl, rfl⟩
  go_wp2
  go_ret
  exact ⟨rfl, rfl⟩
end
/-- Write, whatever is asked -/
theorem write_any {D : DevP} {w : World} {F : Nat → Prop} {p : Value} (h : IsDev D w F p) (hF : ∀ b, F b → b < w.heap.size) {N : Nat} (hG : D.good N) (hN : N ≤ 100000) (n : Nat) (hn : n < 256) (i : Int) (A : Option Addr) (c : Nat) (l : List Nat) (hl : BytesIn w (fun b => ¬ F b) A l) :
    Calls Try.prog 63 #[p, .int .u8 n, .int .i64 i, .slice A l.length c] w fun e w' => e = .returned (.int .u16 ((D.write n i l).1 : Nat)) ∧ DevPost (D.write n i l).2 F p w w' := by
  have hp := h
  obtain ⟨gp, s, lv, X, rfl, h'⟩ := hp
  by_cases hh : D.has n i
  · obtain ⟨h1, h2, h3⟩ := hh
    obtain ⟨k, rfl⟩ := Int.eq_ofNat_of_zero_le h2
    have hk : k < (D.f n).length := by omega
    by_cases hl8 : l.length = 128
    · have e1 : (D.write n (k : Nat) l).1 = 0 := by
        unfold DevP.write
        rw [if_pos ⟨h1, h2, h3⟩, if_pos hl8]
      rw [e1]
      exact write_some h hF hG hN h1 hk A c l hl hl8
    · have e1 : D.write n (k : Nat) l = (1, D) := by
        unfold DevP.write
        rw [if_pos ⟨h1, h2, h3⟩, if_neg hl8]
      rw [e1]
      refine (write_arg h h1 hk (hG n h1).1 A c l.length hl8).mono ?_
      rintro e w' ⟨rfl, rfl⟩
      exact ⟨rfl, DevPost.refl h⟩
  · have e1 : D.write n i l = (50, D) := by
      unfold DevP.write
      rw [if_neg hh]
    rw [e1]
    refine (write_none h n hn i hh A c l.length).mono ?_
    rintro e w' ⟨rfl, rfl⟩
    exact ⟨rfl, DevPost.refl h⟩
end Go.Proofs.Ytkganajbilnanaa


/- disk: Read, Waits, Size, Halted, Halt, by the device. Conditions: the device lies there. -/
namespace Go.Proofs.Ytkganajbilnanaa
open Go.ChangeShapes Go.WideShapes Go.ChangeAt Go.RowKit
set_option linter.unusedVariables false
set_option linter.unusedSimpArgs false

section
variable {D : DevP} {w : World} {F : Nat → Prop} {p : Value}
theorem read_any (h : IsDev D w F p) {N : Nat} (hG : D.good N) (hN : N ≤ 100000) (n : Nat) (hn : n < 256) (i : Int) :
    Calls Try.prog 38 #[p, .int .u8 n, .int .i64 i] w (RetB2 (D.read n i).1 ((D.read n i).2 : Nat) w) := by
  obtain ⟨gp, s, lv, X, rfl, h⟩ := h
  by_cases hh : D.has n i
  · have hh' := hh
    obtain ⟨h1, h2, h3⟩ := hh
    obtain ⟨k, rfl⟩ := Int.eq_ofNat_of_zero_le h2
    have hk : k < (D.f n).length := by omega
    have e1 : D.read n (k : Nat) = ((D.f n)[k].newest, 0) := by
      unfold DevP.read
      rw [if_pos hh', Int.toNat_natCast, DevP.sect_eq hk]
    rw [e1]
    obtain ⟨q1, q2, q3⟩ := hG.at_ h1 hk
    exact read_some h n h1 k hk (hG n h1).1 (by omega) (by rw [newest_128 q1 q3]; omega)
  · have e1 : D.read n i = ([], 50) := by
      unfold DevP.read
      rw [if_neg hh]
    rw [e1]
    refine (read_none h n hn i hh).mono ?_
    rintro e w' ⟨rfl, rfl⟩
    exact ⟨none, 0, rfl, World.ownsRow_nil _ _ _ _, Below.refl _ _, fun x hx => by cases hx⟩
theorem sizes_any (h : IsDev D w F p) (n : Nat) (hn : n < 256) :
    Calls Try.prog 48 #[p, .int .u8 n] w fun e w' => e = .returned (.int .i64 (D.size n : Nat)) ∧ w = w' := by
  obtain ⟨gp, s, lv, X, rfl, h⟩ := h
  exact size_any h n hn
theorem haltedd_any (h : IsDev D w F p) :
    Calls Try.prog 30 #[p] w fun e w' => e = .returned (.bool D.halted) ∧ w = w' := by
  obtain ⟨gp, s, lv, X, rfl, h⟩ := h
  exact halted_any gp D.halted w (h.blk.cell 3)
theorem haltd_any (h : IsDev D w F p) (hF : ∀ b, F b → b < w.heap.size) (n : Int) (hn : n < 9223372036854775808) :
    Calls Try.prog 15 #[p, .int .i64 n] w fun e w' => e = .returned (.tuple #[]) ∧ DevPost (D.halt n) F p w w' := by
  obtain ⟨gp, s, lv, X, rfl, h⟩ := h
  have hlv : lv.oneCell' = true := by
    have := h.left
    cases hl : D.left with
    | none => rw [hl] at this; rw [show lv = .pointer none from this]; rfl
    | some q => rw [hl] at this; obtain ⟨gl, e, _⟩ := this; rw [e]; rfl
  have hgp := h.blk.lt
  refine (halt_any gp n lv w (h.blk.cell 2) (h.blk.frozen 2) hgp hlv).mono fun e w' ⟨e0, e1⟩ => ⟨e0, ?_⟩
  subst e1
  have ho : Only (fun b => b = gp) w ((w.setCell ⟨gp, 2, none⟩ (.pointer (some ⟨w.heap.size, 0, none⟩))).alloc (.cells #[.int .i64 (max n 0)] 3)) :=
    ((Only.refl (fun b => b = gp) w).setCell (p := ⟨gp, 2, none⟩) (.inl rfl) _).alloc _
  have hfar : Far w 90 (fun b => b = gp) := fun b q hb => by
    subst q
    exact ⟨_, h.blk.ty, by decide, by decide, by decide⟩
  have hsz : (w.setCell ⟨gp, 2, none⟩ (.pointer (some ⟨w.heap.size, 0, none⟩))).heap.size = w.heap.size := by simp [World.setCell]
  have hnew : Blk ((w.setCell ⟨gp, 2, none⟩ (.pointer (some ⟨w.heap.size, 0, none⟩))).alloc (.cells #[.int .i64 (max n 0)] 3)) w.heap.size 3 #[.int .i64 (max n 0)] := by
    have := Blk.new (w.setCell ⟨gp, 2, none⟩ (.pointer (some ⟨w.heap.size, 0, none⟩))) 3 #[.int .i64 (max n 0)]
    rw [hsz] at this
    exact this
  have hin : grow F w ((w.setCell ⟨gp, 2, none⟩ (.pointer (some ⟨w.heap.size, 0, none⟩))).alloc (.cells #[.int .i64 (max n 0)] 3)) w.heap.size := .inr ⟨Nat.le_refl _, hnew.lt⟩
  have hmx : (((max n 0).toNat : Nat) : Int) = max n 0 := by omega
  refine ⟨⟨gp, s, .pointer (some ⟨w.heap.size, 0, none⟩), X, rfl, ⟨(h.toFilesAt.far ho hfar).mono fun b q => .inl q, (h.blk.set_ 2 _).alloc _, .inl h.inF, ⟨w.heap.size, rfl, hin, ?_, ?_⟩⟩⟩, ho.mono fun b q => .inl (by subst q; exact h.inF)⟩
  · rw [hmx]
    exact hnew
  · omega
end
end Go.Proofs.Ytkganajbilnanaa


/- disk: a sector is set anew, step by step through a file. Conditions: none. -/
namespace Go.Proofs.Ytkganajbilnanaa
open Go.ChangeShapes Go.WideShapes Go.ChangeAt Go.RowKit
set_option linter.unusedVariables false
set_option linter.unusedSimpArgs false

/-- the first k sectors of file n are turned by g -/
def stepF (f : Nat → List Sect) (n : Nat) (g : Nat → Sect → Sect) (k : Nat) (m : Nat) : List Sect := if m = n then (f m).mapIdx (fun i s => if i < k then g i s else s) else f m
theorem stepF_zero (f : Nat → List Sect) (n : Nat) (g : Nat → Sect → Sect) : stepF f n g 0 = f := by
  funext m
  unfold stepF
  split
  · apply List.ext_getElem
    · simp
    · intro i h1 h2
      simp
  · rfl
theorem stepF_length (f : Nat → List Sect) (n : Nat) (g : Nat → Sect → Sect) (k m : Nat) : (stepF f n g k m).length = (f m).length := by
  unfold stepF
  split
  · simp
  · rfl
theorem stepF_all (f : Nat → List Sect) (n : Nat) (g : Nat → Sect → Sect) {k : Nat} (hk : k = (f n).length) : stepF f n g k = fun m => if m = n then (f m).mapIdx g else f m := by
  funext m
  unfold stepF
  split
  · rename_i e
    subst e
    apply List.ext_getElem
    · simp
    · intro i h1 h2
      simp only [List.getElem_mapIdx]
      rw [if_pos (by simp at h1; omega)]
  · rfl
theorem stepF_at (f : Nat → List Sect) (n : Nat) (g : Nat → Sect → Sect) {k : Nat} (hk : k < (f n).length) (h : k < (stepF f n g k n).length) : (stepF f n g k n)[k] = (f n)[k] := by
  simp only [stepF, if_true, List.getElem_mapIdx, Nat.lt_irrefl, if_false]
theorem stepF_next (f : Nat → List Sect) (n : Nat) (g : Nat → Sect → Sect) {k : Nat} (hk : k < (f n).length) : putD (stepF f n g k) n k (g k (f n)[k]) = stepF f n g (k + 1) := by
  funext m
  unfold putD
  split
  · rename_i e
    subst e
    apply List.ext_getElem
    · simp [stepF]
    · intro i h1 h2
      have hi : i < (f m).length := by rw [stepF_length] at h2; exact h2
      rw [List.getElem_set]
      simp only [stepF, if_true, List.getElem_mapIdx]
      by_cases e : k = i
      · subst e
        rw [if_pos rfl]
        exact (if_pos (Nat.lt_succ_self _)).symm
      · rw [if_neg e]
        by_cases e2 : i < k
        · rw [if_pos e2]
          exact (if_pos (by omega)).symm
        · rw [if_neg e2]
          exact (if_neg (by omega)).symm
  · rename_i e
    simp only [stepF, if_neg e]
section
variable {ts : TypeId} {f : Nat → List Sect} {w : World} {F F' : Nat → Prop} {s : Nat → Value} {X : Nat → List Value}
/-- both cells of a sector are stored to: it is as told, nothing waits -/
theorem FilesAt.set2 (h : FilesAt ts f w F s X) (hts : ts ≠ 26) (hts2 : ts ≠ 5) {n k g c : Nat} (hn : n < 2) (hk : k < (f n).length) (es : s n = .slice (some ⟨g, 0, none⟩) (f n).length c) {u : Value} {l : List Nat} (hu : Txt w F' u l) (hFF : ∀ b, F b → F' b) :
    FilesAt ts (putD f n k ⟨l, []⟩) ((w.setCell ⟨g, 2 * k, none⟩ u).setCell ⟨g, 2 * k + 1, none⟩ (.slice none 0 0)) F' s (updX X n (((X n).set (2 * k) u).set (2 * k + 1) (.slice none 0 0))) := by
  have hb := (h.but n k).mono hFF
  have hr := (hb.row n hn).1
  rw [es] at hr
  have h1 := (hr.stored (2 * k) u).1
  have h2 := (h1.stored (2 * k + 1) (.slice none 0 0)).1
  rw [← es] at h2
  have hXl : (X n).length = 2 * (f n).length := by have := hr.1; omega
  refine hb.put hn hts hts2 h2 (lv := u) (wv := .slice none 0 0) ?_ ?_ ?_ ?_ hu (IsWaits.nil w F') ?_
  · rw [List.getElem?_set_ne (by omega), List.getElem?_set_self (by omega)]
  · rw [List.getElem?_set_self (by rw [List.length_set]; omega)]
  · exact fun j h1 h2 => by rw [List.getElem?_set_ne (by omega), List.getElem?_set_ne (by omega)]
  · rw [es]
    exact ((Only.refl (fun b => (Value.slice (some ⟨g, 0, none⟩) (f n).length c).ownBlock = some b) w).setCell (p := ⟨g, 2 * k, none⟩) (.inl rfl) _).setCell (p := ⟨g, 2 * k + 1, none⟩) (.inl rfl) _
  · exact fun m i v _ _ _ => .inr (.inl rfl)
end
section
variable {D : DevP} {w : World} {F F' : Nat → Prop} {gp : Nat} {s : Nat → Value} {lv : Value} {X : Nat → List Value}
theorem DevAt.set2 (h : DevAt D w F gp s lv X) {n k g c : Nat} (hn : n < 2) (hk : k < (D.f n).length) (es : s n = .slice (some ⟨g, 0, none⟩) (D.f n).length c) {u : Value} {l : List Nat} (hu : Txt w F' u l) (hFF : ∀ b, F b → F' b) :
    DevAt (D.put n k ⟨l, []⟩) ((w.setCell ⟨g, 2 * k, none⟩ u).setCell ⟨g, 2 * k + 1, none⟩ (.slice none 0 0)) F' gp s lv (updX X n (((X n).set (2 * k) u).set (2 * k + 1) (.slice none 0 0))) := by
  have hr := (h.file n hn).1
  rw [es] at hr
  have hg : Ty w g 90 := own_ty hr rfl
  have hgp : gp ≠ g := fun q => by subst q; exact absurd (h.blk.ty.uniq hg) (by decide)
  refine ⟨h.toFilesAt.set2 (by decide) (by decide) hn hk es hu hFF, (h.blk.far hgp _).far hgp _, hFF _ h.inF, IsLeft.mono ?_ hFF⟩
  show IsLeft _ F lv D.left
  cases hl : D.left with
  | none => have := h.left; rw [hl] at this; exact this
  | some q =>
    have := h.left
    rw [hl] at this
    obtain ⟨gl, q1, q2, q3, q4⟩ := this
    have hgl : gl ≠ g := fun q => by subst q; exact absurd (q3.ty.uniq hg) (by decide)
    exact ⟨gl, q1, q2, (q3.far hgl _).far hgl _, q4⟩
theorem DevAt.set2_only (h : DevAt D w F gp s lv X) {n k g c : Nat} (hn : n < 2) (es : s n = .slice (some ⟨g, 0, none⟩) (D.f n).length c) (u : Value) :
    Only (Hard F w) w ((w.setCell ⟨g, 2 * k, none⟩ u).setCell ⟨g, 2 * k + 1, none⟩ (.slice none 0 0)) := by
  obtain ⟨hr, hF, _⟩ := h.file n hn
  rw [es] at hr hF
  have hg : Hard F w g := ⟨hF g rfl, fun q => absurd ((own_ty hr rfl).uniq q) (by decide)⟩
  exact ((Only.refl (Hard F w) w).setCell (p := ⟨g, 2 * k, none⟩) (.inl hg) _).setCell (p := ⟨g, 2 * k + 1, none⟩) (.inl hg) _
end
end Go.Proofs.Ytkganajbilnanaa


/- disk: Sync. Conditions: the device lies there. -/
namespace Go.Proofs.Ytkganajbilnanaa
open Go.ChangeShapes Go.WideShapes Go.ChangeAt Go.RowKit
set_option linter.unusedVariables false
set_option linter.unusedSimpArgs false
set_option maxRecDepth 20000

def syncS (_ : Nat) (s : Sect) : Sect := ⟨s.newest, []⟩
section
variable {D : DevP} {w : World} {F : Nat → Prop} {gp : Nat} {s : Nat → Value} {lv : Value} {X : Nat → List Value}
set_option maxHeartbeats 400000 in
theorem sync_some (h : DevAt D w F gp s lv X) (hF : ∀ b, F b → b < w.heap.size) {N : Nat} (hG : D.good N) (hN : N ≤ 100000) {n : Nat} (hn : n < 2) :
    Calls Try.prog 64 #[.pointer (some ⟨gp, 0, none⟩), .int .u8 n] w fun e w' => e = .returned (.tuple #[]) ∧ DevPost (D.sync n) F (.pointer (some ⟨gp, 0, none⟩)) w w' := by
  have hf := file_any h n (by omega)
  rw [if_pos hn] at hf
  have hgo := goes_any h
  have hlt : decide ((2 : Int) ≤ (n : Int)) = false := by rw [decide_eq_false_iff_not]; omega
  obtain ⟨A, c, es, -, -⟩ := own_form (h.file n hn).1
  rw [es] at hf
  have hD : D.sync n = if D.goes.1 then { D.goes.2 with f := mapF D n syncS } else D.goes.2 := if_pos hn
  rw [hD]
  cases hg : D.goes.1 with
  | false =>
    rw [hg] at hgo
    go_enter Try.func64, Try.ntmps64
    go_wp2_with fail
    refine hf.mono ?_
    rintro e w1 ⟨rfl, rfl⟩
    go_wp2_with fail
    refine hgo.mono ?_
    rintro e w1 ⟨rfl, h1, h2⟩
    have hfin : DevPost D.goes.2 F (.pointer (some ⟨gp, 0, none⟩)) w w1 := ⟨⟨gp, s, lv, X, rfl, ⟨h1.toFilesAt.mono fun b q => .inl q, h1.blk, .inl h1.inF, h1.left.mono fun b q => .inl q⟩⟩, h2.mono fun b q => .inl q.1⟩
    clear h1 h2
    go_wp2
    refine bodyPost_ret (results_none rfl _ _ _) rfl ?_
    exact ⟨rfl, hfin⟩
  | true =>
    rw [hg] at hgo
    have hgf := D.goes_f
    generalize hD' : D.goes.2 = D' at *
    go_enter Try.func64, Try.ntmps64
    go_wp2_with fail
    refine hf.mono ?_
    rintro e w1 ⟨rfl, rfl⟩
    go_wp2_with fail
    refine hgo.mono ?_
    rintro e w1 ⟨rfl, h1, h2⟩
    obtain ⟨f0, left0, hal0⟩ := D'
    simp only at hgf
    subst hgf
    clear hD' hgo hf h
    obtain ⟨m, hm⟩ : ∃ m, (D.f n).length = m := ⟨_, rfl⟩
    have hm2 := (hG n hn).1
    rw [hm] at es hm2
    rw [hm]
    have HM := Lib.hid hm
    clear hm
    go_wp2_with fail
    go_loopw [19, 5] (fun i j wr => ∃ k : Nat, k ≤ m ∧ i = .int .i64 k ∧ (∃ Xk, DevAt ⟨stepF D.f n syncS k, left0, hal0⟩ wr F gp s lv Xk) ∧ Only (Hard F w) w wr) (fun i _ _ => m - (intOf i).toNat)
    case atStart => exact ⟨0, Nat.zero_le _, rfl, ⟨X, by rw [stepF_zero]; exact h1⟩, h2⟩
    case round =>
      obtain ⟨k, hk, rfl, ⟨Xk, hd⟩, hO⟩ := hrel
      rcases Nat.lt_or_ge k m with hlt | hge
      · have e1 : decide ((k : Int) < (m : Int)) = true := by rw [decide_eq_true_iff]; omega
        have e2 : (0 : Int) ≤ (k : Int) := by omega
        have e3 : (k : Int) < (m : Int) := by omega
        have hkl : k < (stepF D.f n syncS k n).length := by rw [stepF_length, HM.out]; exact hlt
        have hkl0 : k < (D.f n).length := by rw [HM.out]; exact hlt
        have hAt := stepF_at D.f n syncS hkl0 hkl
        have hw : (stepF D.f n syncS k n)[k].waits.length ≤ 100000 := by rw [hAt]; have := (hG.at_ hn hkl0).2.1; omega
        obtain ⟨g, c', lw, wv, es', qc0, qc1, -⟩ := sector_at hd hn hkl
        have hnw := newest_any hd hn hkl hw es'
        rw [show (DevP.f ⟨stepF D.f n syncS k, left0, hal0⟩ n)[k]'hkl = (D.f n)[k] from hAt] at hnw
        rw [Nat.mul_comm 2 k] at hnw
        have es2 := es'
        rw [es] at es'
        injection es' with q1 q2 q3
        subst q1
        subst q3
        clear q2
        have hrow := (hd.file n hn).1
        rw [es2] at hrow
        have qf0 : wr.frozen? ⟨g, k * 2, none⟩ = false := hrow.frozenAt _
        have qf1 : wr.frozen? ⟨g, k * 2 + 1, none⟩ = false := hrow.frozenAt _
        have post := fun (u : Value) (hu : Txt wr F u (D.f n)[k].newest) => DevAt.set2 hd hn hkl es2 hu (fun b q => q)
        have posto := fun (u : Value) => hd.set2_only (n := n) (k := k) hn es2 u
        simp only [Nat.mul_comm 2 k] at qc0 qc1 post posto
        have hnx := stepF_next D.f n syncS hkl0
        have POST := Lib.hid post
        have POSTO := Lib.hid posto
        have HNX := Lib.hid hnx
        clear post posto hnx hd es2 hrow hAt
        go_wp2_with fail
        refine hnw.mono ?_
        rintro e w2 ⟨⟨u, rfl, ht⟩, rfl⟩
        obtain ⟨A2, c2, rfl, -⟩ := ht.bytes
        go_wp2_with fail
        go_roundw
        case rel => exact ⟨k + 1, by omega, by go_num, ⟨_, by rw [← HNX.out]; exact POST.out _ ht⟩, hO.trans (POSTO.out _) fun b q => hard_back hF hO q⟩
        case measure => simp [intOf]; omega
      · obtain rfl : k = m := by omega
        have hfin : DevPost { (⟨D.f, left0, hal0⟩ : DevP) with f := mapF D n syncS } F (.pointer (some ⟨gp, 0, none⟩)) w wr := by
          rw [stepF_all D.f n syncS HM.out.symm] at hd
          exact ⟨⟨gp, s, lv, Xk, rfl, ⟨hd.toFilesAt.mono fun b q => .inl q, hd.blk, .inl hd.inF, hd.left.mono fun b q => .inl q⟩⟩, hO.mono fun b q => .inl q.1⟩
        have HFIN := Lib.hid hfin
        clear hfin hd hO h1 h2
        go_wp2
        go_end0
        exact ⟨rfl, HFIN.out⟩
theorem sync_none (h : DevAt D w F gp s lv X) (n : Nat) (hn : n < 256) (hn2 : 2 ≤ n) :
    Calls Try.prog 64 #[.pointer (some ⟨gp, 0, none⟩), .int .u8 n] w fun e w' => e = .returned (.tuple #[]) ∧ w = w' := by
  have hf := file_any h n hn
  rw [if_neg (by omega)] at hf
  have hlt : decide ((2 : Int) ≤ (n : Int)) = true := by rw [decide_eq_true_iff]; omega
  clear h
  go_enter Try.func64, Try.ntmps64
  go_wp2_with fail
  refine hf.mono ?_
  rintro e w1 ⟨rfl, rfl⟩
  go_wp2
  refine bodyPost_ret (results_none rfl _ _ _) rfl ?_
  exact ⟨rfl, rfl⟩
end
theorem sync_any {D : DevP} {w : World} {F : Nat → Prop} {p : Value} (h : IsDev D w F p) (hF : ∀ b, F b → b < w.heap.size) {N : Nat} (hG : D.good N) (hN : N ≤ 100000) (n : Nat) (hn : n < 256) :
    Calls Try.prog 64 #[p, .int .u8 n] w fun e w' => e = .returned (.tuple #[]) ∧ DevPost (D.sync n) F p w w' := by
  have hp := h
  obtain ⟨gp, s, lv, X, rfl, h'⟩ := hp
  by_cases hh : n < 2
  · exact sync_some h' hF hG hN hh
  · have e1 : D.sync n = D := if_neg hh
    rw [e1]
    refine (sync_none h' n hn (by omega)).mono ?_
    rintro e w' ⟨rfl, rfl⟩
    exact ⟨rfl, DevPost.refl h⟩
end Go.Proofs.Ytkganajbilnanaa


/- The builtin copy into a row of the call's own, or into a block that is known whole. Conditions: none; no program in sight. -/
namespace Go.Proofs.Ytkganajbilnanaa
open Go.RowKit
set_option linter.unusedVariables false
set_option linter.unusedSimpArgs false

theorem run_copy_at {P : Program} {w : World} (dT sT ty elem : TypeId) (hu : P.underlying dT = some (.slice elem)) (hsz : (P.info? elem).map (·.size) = some 1)
    (base g o dl dc m cap : Nat) (xs : List Value) (hown : w.ownsRow base elem 1 (.slice (some ⟨g, 0, none⟩) m cap) m xs) (hod : o + dl ≤ m)
    (B : Nat) (A : Option Addr) (sl sc : Nat) (news : List Value) (hl : news.length = sl) (hat : At w B A news) (h1 : ∀ v ∈ news, v.oneCell' = true) :
    ∃ w', (Builtin.copy_ #[dT, sT] ty #[.slice (some ⟨g, o, none⟩) dl dc, .slice A sl sc]).run P w = .ok (goInt ((min sl dl : Nat) : Int)) w' ∧ w'.ownsRow base elem 1 (.slice (some ⟨g, 0, none⟩) m cap) m (xs.take o ++ news.take (min sl dl) ++ xs.drop (o + min sl dl)) ∧ w.grownBy w' (some g) := by
  subst hl
  have hxs : xs.length = m := by have := hown.1; omega
  rcases Nat.eq_zero_or_pos (min news.length dl) with h0 | h0
  · refine ⟨w, ?_, ?_, World.grownBy.refl w _⟩
    · rw [h0]
      exact run_copy_none (P := P) w dT sT ty elem _ A dl dc news.length sc hu hsz h0
    · rw [h0]
      simpa using hown
  · obtain ⟨b, of, rfl, _, _⟩ := hat 0 (by omega)
    rcases hown.2 with ⟨h', _⟩ | ⟨g', cap', cur, h', hb, hg, hnc, hcm, hcs, htake⟩
    · simp at h'
    · simp only [Value.slice.injEq, Option.some.injEq, Addr.mk.injEq, and_true, true_and] at h'
      obtain ⟨rfl, rfl⟩ := h'
      rw [Nat.mul_one] at hcs htake
      have hsrc : ∀ j v, (news.take (min news.length dl))[j]? = some v → w.cell? ((⟨b, of, none⟩ : Addr).add j) = some v := fun j v hj => by
        rw [List.getElem?_take] at hj
        split at hj
        · obtain ⟨hj1, hj2⟩ := List.getElem?_eq_some_iff.1 hj
          obtain ⟨b', o', e', _, hc⟩ := hat j hj1
          injection e' with e'
          injection e' with e1 e2
          subst e1
          subst e2
          have : (⟨b, of, none⟩ : Addr).add j = ⟨b, of + j, none⟩ := by
            unfold Addr.add
            split
            · subst_vars; rfl
            · rfl
          rw [this, hc, hj2]
        · cases hj
      have hln : (news.take (min news.length dl)).length = min news.length dl := by rw [List.length_take]; omega
      have hrun := run_copy_row (P := P) w dT sT ty elem g o dl dc ⟨b, of, none⟩ news.length sc cur elem (news.take (min news.length dl)) hu hsz hg hln hsrc (by rw [hln]; omega) (fun v hv => h1 v (List.mem_of_mem_take hv))
      rw [hln] at hrun
      refine ⟨_, hrun, ?_, ?_⟩
      · have hX : (cur.toList.take o ++ news.take (min news.length dl) ++ cur.toList.drop (o + min news.length dl)).length = cap := by simp; omega
        refine ⟨by simp; omega, .inr ⟨g, cap, (cur.toList.take o ++ news.take (min news.length dl) ++ cur.toList.drop (o + min news.length dl)).toArray, rfl, hb, setRow_heap _ _ _ _ _ _ hg, hnc, hcm, by rw [Nat.mul_one, List.size_toArray]; exact hX, ?_⟩⟩
        rw [Nat.mul_one, ← htake]
        simp only [List.toList_toArray]
        have hcl : cur.toList.length = cap := by rw [Array.length_toList]; exact hcs
        have e1 : (cur.toList.take o ++ news.take (min news.length dl)).length = o + min news.length dl := by rw [List.length_append, List.length_take, hln]; omega
        rw [List.take_append, List.take_of_length_le (l := cur.toList.take o ++ _) (by rw [e1]; omega), e1, List.take_take, Nat.min_eq_left (show o ≤ m by omega), List.drop_take]
      · exact ⟨rfl, rfl, rfl, by simp [World.setRow], fun k hk hne => setRow_other w g k _ (by intro e; exact hne (by rw [e]))⟩
theorem wp_copy_at {P : Program} {w : World} {o : Oper} {a : Act} {K : Act → World → Prop} {Q : Exit → Act → World → Prop} (d s : Operand) (dT sT : TypeId)
    (ho : o.op = .call { callee := .builtin .copy, args := #[d, s], argTypes := #[dT, sT] }) (elem : TypeId) (hu : P.underlying dT = some (.slice elem)) (hsz : (P.info? elem).map (·.size) = some 1)
    (base g of dl dc m cap : Nat) (xs : List Value) (hd : a.eval d = .slice (some ⟨g, of, none⟩) dl dc) (hown : w.ownsRow base elem 1 (.slice (some ⟨g, 0, none⟩) m cap) m xs) (hod : of + dl ≤ m)
    (B : Nat) (A : Option Addr) (sl sc : Nat) (news : List Value) (hs : a.eval s = .slice A sl sc) (hl : news.length = sl) (hat : At w B A news) (h1 : ∀ v ∈ news, v.oneCell' = true)
    (h : ∀ w', w'.ownsRow base elem 1 (.slice (some ⟨g, 0, none⟩) m cap) m (xs.take of ++ news.take (min sl dl) ++ xs.drop (of + min sl dl)) → w.grownBy w' (some g) → K (a.put o.dst (goInt ((min sl dl : Nat) : Int))) w') : o.wp P a w K Q := by
  obtain ⟨w', hrun, h2, h3⟩ := run_copy_at (P := P) (w := w) dT sT o.type elem hu hsz base g of dl dc m cap xs hown hod B A sl sc news hl hat h1
  unfold Oper.wp execOp
  simp only [ho, resolve, invoke, builtin, Sem.run_bind, Sem.run_pure, Result.andThen_ok, List.map_toArray, List.map_cons, List.map_nil, hd, hs, hrun]
  exact h w' h2 h3
theorem step_copy_at {P : Program} {w : World} {ops : Array Oper} {o : Oper} {a : Act} {K : Act → World → Prop} {Q : Exit → Act → World → Prop} {E : Prop} (hgd : o.guard = none) (d s : Operand) (dT sT : TypeId)
    (ho : o.op = .call { callee := .builtin .copy, args := #[d, s], argTypes := #[dT, sT] }) (elem : TypeId) (hu : P.underlying dT = some (.slice elem)) (hsz : (P.info? elem).map (·.size) = some 1)
    (base g of dl dc m cap : Nat) (xs : List Value) (hd : a.eval d = .slice (some ⟨g, of, none⟩) dl dc) (hown : w.ownsRow base elem 1 (.slice (some ⟨g, 0, none⟩) m cap) m xs) (hod : of + dl ≤ m)
    (B : Nat) (A : Option Addr) (sl sc : Nat) (news : List Value) (hs : a.eval s = .slice A sl sc) (hl : news.length = sl) (hat : At w B A news) (h1 : ∀ v ∈ news, v.oneCell' = true)
    (h : ∀ w', w'.ownsRow base elem 1 (.slice (some ⟨g, 0, none⟩) m cap) m (xs.take of ++ news.take (min sl dl) ++ xs.drop (of + min sl dl)) → w.grownBy w' (some g) → K (a.put o.dst (goInt ((min sl dl : Nat) : Int))) w') :
    if Region.wanted o (yielded ops a.tmps) = true then Oper.wp P o a w K Q else E := by
  have hw : Region.wanted o (yielded ops a.tmps) = true := by simp [Region.wanted, hgd]
  rw [if_pos hw]
  exact wp_copy_at d s dT sT ho elem hu hsz base g of dl dc m cap xs hd hown hod B A sl sc news hs hl hat h1 h
theorem wpList_copy_at {P : Program} {w : World} {ops : Array Oper} {rest : List Oper} {o : Oper} {a : Act} {Q : Exit → Act → World → Prop} (hgd : o.guard = none) (d s : Operand) (dT sT : TypeId)
    (ho : o.op = .call { callee := .builtin .copy, args := #[d, s], argTypes := #[dT, sT] }) (elem : TypeId) (hu : P.underlying dT = some (.slice elem)) (hsz : (P.info? elem).map (·.size) = some 1)
    (base g of dl dc m cap : Nat) (xs : List Value) (hd : a.eval d = .slice (some ⟨g, of, none⟩) dl dc) (hown : w.ownsRow base elem 1 (.slice (some ⟨g, 0, none⟩) m cap) m xs) (hod : of + dl ≤ m)
    (B : Nat) (A : Option Addr) (sl sc : Nat) (news : List Value) (hs : a.eval s = .slice A sl sc) (hl : news.length = sl) (hat : At w B A news) (h1 : ∀ v ∈ news, v.oneCell' = true)
    (h : ∀ w', w'.ownsRow base elem 1 (.slice (some ⟨g, 0, none⟩) m cap) m (xs.take of ++ news.take (min sl dl) ++ xs.drop (of + min sl dl)) → w.grownBy w' (some g) → wpList P ops Q rest (a.put o.dst (goInt ((min sl dl : Nat) : Int))) w') :
    wpList P ops Q (o :: rest) a w :=
  wpList_plain hgd fun _ hK => wp_copy_at d s dT sT ho elem hu hsz base g of dl dc m cap xs hd hown hod B A sl sc news hs hl hat h1 fun w' h2 h3 => hK _ _ (h w' h2 h3)
end Go.Proofs.Ytkganajbilnanaa
