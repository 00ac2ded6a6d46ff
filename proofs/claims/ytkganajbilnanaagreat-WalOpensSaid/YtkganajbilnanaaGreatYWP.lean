/- wal: what Append leaves in memory. Conditions: the log lies there. -/
import Derived.Test.YtkganajbilnanaaGreatYWK
import Derived.Deep.CutBlock
set_option linter.unusedVariables false
set_option linter.unusedSimpArgs false
namespace Go.Proofs.YtkganajbilnanaaGreat
open Go.ChangeShapes Go.WideShapes Go.ChangeAt Go.RowKit
open NumMath
set_option maxRecDepth 20000
section
variable {L : LogP} {D : DevP} {w w1 w6 : World} {F G : Nat → Prop} {gl : Nat} {pd sv st : Value}
theorem Lg.place (h : Lg L D w F G gl pd sv st) (hb : Below w.heap.size w w1) {A' : Option Addr} {c' k x : Nat} (hk : L.starts.length = k) (ho : w6.ownsRow 0 3 1 (.slice A' (k + 1) c') (k + 1) (placeV L.starts ++ [.int .i64 (x : Nat)])) (hg : w1.grownBy w6 st.ownBlock)
    (hat : (Value.slice A' (k + 1) c').ownBlock = st.ownBlock ∨ (Value.slice A' (k + 1) c').ownBlock = some w1.heap.size) :
    Blk w6 gl 82 (logV L.h pd L.strips L.slot sv st L.lasts) ∧
    Lg { L with starts := L.starts ++ [x] } D (w6.setCell ⟨gl, 8, none⟩ (.slice A' (k + 1) c')) F (grow G w (w6.setCell ⟨gl, 8, none⟩ (.slice A' (k + 1) c'))) gl pd sv (.slice A' (k + 1) c') ∧ Only G w (w6.setCell ⟨gl, 8, none⟩ (.slice A' (k + 1) c')) := by
  have h1 := h.below hb
  have o6 : Only (fun b => st.ownBlock = some b) w1 w6 := Only.of_grown hg fun b e => .inl e
  have nty : ∀ {b : Nat} {t : TypeId}, Ty w1 b t → t ≠ 3 → ¬ st.ownBlock = some b := fun hty hne e => hne (hty.uniq (own_ty h1.log.strt e))
  have k6 := h1.log.blk.only o6 (nty h1.log.blk.ty (by decide))
  have hs6 : (w6.setCell ⟨gl, 8, none⟩ (.slice A' (k + 1) c')).heap.size = w6.heap.size := by simp [World.setCell]
  have o7 : Only (fun b => st.ownBlock = some b ∨ b = gl) w1 (w6.setCell ⟨gl, 8, none⟩ (.slice A' (k + 1) c')) := (o6.mono fun b e => .inl (.inl e)).setCell (p := ⟨gl, 8, none⟩) (.inl (.inr rfl)) _
  have z1 := hb.size
  have z2 := o6.size
  have hO : Only G w (w6.setCell ⟨gl, 8, none⟩ (.slice A' (k + 1) c')) := (Only.of_below hb G).trans o7 fun b q => .inl (q.elim (fun e => h.log.strtG b e) fun e => by rw [e]; exact h.log.inG)
  have hgl6 : gl < w6.heap.size := k6.lt
  refine ⟨k6, ⟨h1.dev.only o7 fun b q q' => h.dis b q (q'.elim (fun e => h.log.strtG b e) fun e => by rw [e]; exact h.log.inG), ⟨k6.set_ 8 _, .inl h.log.inG, ?_, ?_, ?_⟩, ?_, ?_, ?_⟩, hO⟩
  · refine (h1.log.strm.only o7 fun b q hu e => ?_).mono fun b q => .inl q
    rcases e with e | e
    · exact nty (t := 5) (by obtain ⟨cs, f, z⟩ := hu; exact ⟨cs, f, z⟩) (by decide) e
    · subst e
      exact absurd (hu.uniq' h1.log.blk.ty) (by decide)
  · have e : placeV (L.starts ++ [x]) = placeV L.starts ++ [.int .i64 (x : Nat)] := by unfold placeV; rw [List.map_append]; rfl
    show World.ownsRow _ 0 3 1 _ (L.starts ++ [x]).length (placeV (L.starts ++ [x]))
    rw [e, List.length_append, hk]
    refine Only.own (S := fun b => b = gl) ((Only.refl (fun b => b = gl) w6).setCell (p := ⟨gl, 8, none⟩) (.inl rfl) _) ho fun b e' e'' => ?_
    subst e''
    exact absurd ((own_ty ho e').uniq k6.ty) (by decide)
  · intro b e
    rcases hat with q | q
    · exact .inl (h.log.strtG b (q.symm.trans e))
    · rw [q] at e
      injection e with e
      refine .inr ⟨by omega, ?_⟩
      rw [hs6]
      have := (ho.lt _ q).2
      omega
  · intro b q q'
    rcases q' with q' | q'
    · exact h.dis b q q'
    · have := h.hiF b q
      omega
  · intro b q
    have := h.hiF b q
    omega
  · intro b q
    rcases q with q | q
    · have := h.hiG b q
      omega
    · exact q.2
theorem Lg.stream (h : Lg L D w F G gl pd sv st) {A' : Option Addr} {c' n : Nat} {l : List Nat} (hl : Small l) (hn : (L.stream ++ l).length = n) (ho : w6.ownsRow 0 5 1 (.slice A' n c') n ((L.stream ++ l).map byteV)) (hg : Only (fun b => G b ∧ U8 w b) w w6)
    (hat : ∀ b, (Value.slice A' n c').ownBlock = some b → G b ∨ w.heap.size ≤ b) :
    Blk w6 gl 82 (logV L.h pd L.strips L.slot sv st L.lasts) ∧
    Lg { L with stream := L.stream ++ l } D (w6.setCell ⟨gl, 7, none⟩ (.slice A' n c')) F (grow G w (w6.setCell ⟨gl, 7, none⟩ (.slice A' n c'))) gl pd (.slice A' n c') st ∧ Only G w (w6.setCell ⟨gl, 7, none⟩ (.slice A' n c')) := by
  have nty : ∀ {b : Nat} {t : TypeId}, Ty w b t → t ≠ 5 → ¬ (G b ∧ U8 w b) := fun hty hne q => hne (q.2.uniq' hty).symm
  have k6 := h.log.blk.only hg (nty h.log.blk.ty (by decide))
  have hs6 : (w6.setCell ⟨gl, 7, none⟩ (.slice A' n c')).heap.size = w6.heap.size := by simp [World.setCell]
  have o7 : Only (fun b => (G b ∧ U8 w b) ∨ b = gl) w (w6.setCell ⟨gl, 7, none⟩ (.slice A' n c')) := (hg.mono fun b e => .inl (.inl e)).setCell (p := ⟨gl, 7, none⟩) (.inl (.inr rfl)) _
  have z2 := hg.size
  have hO : Only G w (w6.setCell ⟨gl, 7, none⟩ (.slice A' n c')) := o7.mono fun b q => .inl (q.elim (fun e => e.1) fun e => by rw [e]; exact h.log.inG)
  have hgl6 : gl < w6.heap.size := k6.lt
  have og : Only (fun b => b = gl) w6 (w6.setCell ⟨gl, 7, none⟩ (.slice A' n c')) := (Only.refl (fun b => b = gl) w6).setCell (p := ⟨gl, 7, none⟩) (.inl rfl) _
  have ho7 := og.own ho fun b e' e'' => by
    subst e''
    exact absurd ((own_ty ho e').uniq k6.ty) (by decide)
  have hG' : ∀ b, (Value.slice A' n c').ownBlock = some b → grow G w (w6.setCell ⟨gl, 7, none⟩ (.slice A' n c')) b := fun b e => by
    rcases hat b e with q | q
    · exact .inl q
    · exact .inr ⟨q, by rw [hs6]; exact (ho.lt b e).2⟩
  refine ⟨k6, ⟨h.dev.only o7 fun b q q' => h.dis b q (q'.elim (fun e => e.1) fun e => by rw [e]; exact h.log.inG), ⟨k6.set_ 7 _, .inl h.log.inG, Strm.own ho7 hn (small_append h.log.strm.1.bytes.choose_spec.choose_spec.2.2.2 hl) hG', ?_, fun b e => .inl (h.log.strtG b e)⟩, ?_, ?_, ?_⟩, hO⟩
  · refine o7.own h.log.strt fun b e q => ?_
    rcases q with q | q
    · exact nty (own_ty h.log.strt e) (by decide) q
    · subst q
      exact absurd ((own_ty h.log.strt e).uniq h.log.blk.ty) (by decide)
  · intro b q q'
    rcases q' with q' | q'
    · exact h.dis b q q'
    · have := h.hiF b q
      omega
  · intro b q
    have := h.hiF b q
    omega
  · intro b q
    rcases q with q | q
    · have := h.hiG b q
      omega
    · exact q.2
end
theorem addr_add (b o j : Nat) : (⟨b, o, none⟩ : Addr).add j = ⟨b, o + j, none⟩ := by
  unfold Addr.add
  split
  · subst_vars; rfl
  · rfl
theorem wpList_append_strm {w : World} {G : Nat → Prop} {v : Value} {l : List Nat} (h : Strm w G v l) {ops : Array Oper} {rest : List Oper} {o : Oper} {a : Act} {Q : Exit → Act → World → Prop} (hgd : o.guard = none) (s x : Operand)
    (ho : o.op = .call { callee := .builtin .append, args := #[s, x], argTypes := #[45, 45] }) (hs : a.eval s = v)
    (B : Nat) (A : Option Addr) (m c : Nat) (lb : List Nat) (hx : a.eval x = .slice A m c) (hm : lb.length = m) (hat : Bytes w B A lb) (hpos : 0 < m) (hsz : l.length + m ≤ 1000000)
    (hK : ∀ A' c' w', w'.ownsRow 0 5 1 (.slice A' (l.length + m) c') (l.length + m) ((l ++ lb).map byteV) → Only (fun b => G b ∧ U8 w b) w w' → (∀ b, (Value.slice A' (l.length + m) c').ownBlock = some b → G b ∨ w.heap.size ≤ b) →
      wpList Tryz.prog ops Q rest (a.put o.dst (.slice A' (l.length + m) c')) w') : wpList Tryz.prog ops Q (o :: rest) a w := by
  obtain ⟨i0, hi0, hz0, hz1, hz2⟩ := info_parts u8_info
  obtain ⟨ht, hown | ⟨Af, hf⟩⟩ := h
  · obtain ⟨ho1, ho2⟩ := hown
    refine wpList_append_at hgd s x 45 ho 0 5 i0 _ 1 Tryz.underlying45 hi0 hz0 hz1 hz2 rfl v l.length (l.map byteV) hs ho1 B A m c (lb.map byteV) hx (by rw [List.length_map]; exact hm) hat.1 (bytes_oneCell _) (by unfold maxLen; omega) (by omega) (Nat.zero_le _) ?_
    intro A' c' w' q1 q2 q3
    refine hK A' c' w' (by rw [List.map_append]; exact q1) (Only.of_grown q2 fun b e => .inl ⟨ho2 b e, by obtain ⟨cs, f, z⟩ := own_ty ho1 e; exact ⟨cs, f, z⟩⟩) fun b e => ?_
    rcases q3 with z | z
    · exact .inl (ho2 b (z.symm.trans e))
    · rw [z] at e
      injection e with e
      exact .inr (by omega)
  · obtain ⟨A1, c1, e1, hc1, hb1⟩ := ht.bytes
    rw [hf] at e1
    injection e1 with e1 _ e3
    subst e1
    obtain ⟨bx, ox, rfl, hbx, -⟩ := hat.1 0 (by rw [List.length_map]; omega)
    refine wpList_append_grows w hgd s x 45 ho 5 i0 _ 1 1 Tryz.underlying45 hi0 hz0 hz1 hz2 rfl (by omega) Af l.length l.length (l.map byteV) (hs.trans hf) (fun e => ?_) (by rw [List.length_map]; omega) (fun b e j u hu => ?_) ⟨bx, ox, none⟩ m c (lb.map byteV) hx (by rw [List.length_map]; omega) (fun j u hu => ?_) (bytes_oneCell _) (by omega) (by unfold maxLen; omega) (by omega) ?_
    · have : l = [] := by
        rcases Nat.eq_zero_or_pos l.length with z | z
        · exact List.eq_nil_of_length_eq_zero z
        · obtain ⟨b, o, e', _⟩ := hb1.1 0 (by rw [List.length_map]; omega)
          rw [e] at e'
          cases e'
      rw [this]
      exact ⟨rfl, rfl⟩
    · obtain ⟨hj, hju⟩ := List.getElem?_eq_some_iff.1 hu
      obtain ⟨b', o', e', _, hc⟩ := hb1.1 j hj
      rw [e] at e'
      injection e' with e'
      subst e'
      rw [addr_add, hc, hju]
    · obtain ⟨hj, hju⟩ := List.getElem?_eq_some_iff.1 hu
      obtain ⟨b', o', e', _, hc⟩ := hat.1 j hj
      injection e' with e'
      injection e' with e2 e3
      subst e2
      subst e3
      rw [addr_add, hc, hju]
    · intro v' w' q1 q2
      obtain ⟨A', c', rfl, -⟩ := own_form q1
      refine hK A' c' w' (by rw [List.map_append]; exact own_base (Nat.zero_le _) q1) (Only.of_grown q2 fun b e => by cases e) fun b e => .inr (q1.lt b e).1
def appP (L : LogP) (r : RecP) (spare : Nat) : (Nat × Nat) × LogP :=
  if okR r = false then ((0, 61), L)
  else if L.strips * 127 < spare ∨ L.strips * 127 - spare < L.stream.length + (encL r).length then ((0, 80), L)
  else ((L.h.base + L.stream.length, 0), { L with starts := L.starts ++ [L.stream.length], stream := L.stream ++ encL r })
theorem int_info : (Tryz.prog.info? 3).map (fun i => (i.zero, i.size, i.bytes)) = some (some (.int .i64 0), 1, 8) := by kernel_rfl
set_option maxHeartbeats 8000000 in
theorem append_any {L : LogP} {D : DevP} {w : World} {F G : Nat → Prop} {gl : Nat} {pd sv st : Value} (h : Lg L D w F G gl pd sv st) (r : RecP) (m : RecMm) (B : Nat) (hr : RecAt w B r m) (hB : B ≤ w.heap.size)
    (hst : L.strips ≤ 2048) (hln : L.stream.length ≤ L.strips * 127) (hbn : L.h.base + L.stream.length < 18446744073709551616) (hsn : L.starts.length ≤ 100000) (spare : Nat) (hsp : spare < 18446744073709551616) :
    Calls Tryz.prog 16 #[.pointer (some ⟨gl, 0, none⟩), .agg (recA r m), .int .u64 (spare : Nat)] w fun e w' => e = .returned (.tuple #[.int .u64 ((appP L r spare).1.1 : Nat), .int .u16 ((appP L r spare).1.2 : Nat)]) ∧ LgPost (appP L r spare).2 D F G gl pd w w' := by
  obtain ⟨i0, hi0, hz0, hz1, hz2⟩ := info_parts int_info
  have kb := Blk.new w 51 (recA r m)
  have hb := below_alloc w (.cells (recA r m) 51)
  have hlen : okR r = true → (encL r).length ≤ 2206 ∧ 27 ≤ (encL r).length := fun ho => by
    have := bodyL_length ho
    rw [encL_length]
    omega
  have hfit := hr.fits
  go_enter Tryz.func16, Tryz.ntmps16
  go_upto_region 1 with fail
  generalize World.alloc w _ = w1 at *
  have ld := load_rec kb
  have cen := encode_any r m B w1 (hr.below (hb.mono hB)) (Nat.le_trans hB hb.size)
  clear kb
  go_wp2_with (refine wpList_load_run rfl 51 (.tmp 4) _ _ rfl rfl ld ?_; clear ld)
  refine cen.mono ?_
  rintro e w2 ⟨hb2, (⟨hok, A, c, rfl, how⟩ | ⟨hok, rfl⟩)⟩
  rotate_left
  · have F1 : Hid (LgPost (appP L r spare).2 D F G gl pd w w2) := Lib.hid (by
      unfold appP
      rw [if_pos hok]
      exact LgPost.below h (hb.trans (hb2.mono hb.size)))
    have F2 : Hid ((appP L r spare).1 = (0, 61)) := Lib.hid (by unfold appP; rw [if_pos hok])
    clear hb2 hok h hr hb cen hlen
    go_wp2
    go_ret2
    exact ⟨by rw [F2.out]; rfl, F1.out⟩
  obtain ⟨hle, hle2⟩ := hlen hok
  have hbw : Below w.heap.size w w2 := hb.trans (hb2.mono hb.size)
  have hL2 := h.below hbw
  obtain ⟨Av, cv, rfl, hcv, hbv⟩ := hL2.log.bytes
  have k2 := hL2.log.blk
  have hsm := encL_small hfit
  have how2 : w2.ownsRow w.heap.size 5 1 (.slice A (encL r).length c) (encL r).length ((encL r).map byteV) := own_base hb.size how
  have hAP : Hid (appP L r spare = if L.strips * 127 < spare ∨ L.strips * 127 - spare < L.stream.length + (encL r).length then ((0, 80), L) else ((L.h.base + L.stream.length, 0), { L with starts := L.starts ++ [L.stream.length], stream := L.stream ++ encL r })) := Lib.hid (by unfold appP; rw [if_neg (by rw [hok]; simp)])
  have HBW := Lib.hid hbw
  have HL2 := Lib.hid hL2
  have H0 := Lib.hid h
  clear cen hlen hr hb hb2 hbw hL2 h hok how
  obtain ⟨R, hR⟩ : ∃ R, L.strips * 127 = R := ⟨_, rfl⟩
  obtain ⟨n, hn⟩ : ∃ n, L.stream.length = n := ⟨_, rfl⟩
  obtain ⟨ne, hne⟩ : ∃ ne, (encL r).length = ne := ⟨_, rfl⟩
  have crm : Hid (∀ q, Calls Tryz.prog 68 #[.pointer (some ⟨gl, 0, none⟩)] (w2.drewN q) fun e w' => e = .returned (.int .i64 (R : Int)) ∧ w2.drewN q = w') := Lib.hid fun q => by
    have := room_any (k2.drewN q) (by omega)
    rw [hR] at this
    exact this
  rw [hR, hn, hne] at hAP
  rw [hn] at hln hbn
  rw [hR] at hln
  have hRb : R ≤ 260096 := by omega
  have c7 : w2.cell? ⟨gl, 7, none⟩ = some (.slice Av n cv) := by rw [← hn]; exact k2.cell 7
  rw [hne] at how2 hle hle2 ⊢
  have v1 : IntKind.u64.wrap (R : Int) = (R : Int) := by rw [IntKind.wrap_u64]; omega
  have HBV := Lib.hid hbv
  have HN := Lib.hid hn
  have HNE := Lib.hid hne
  clear hbv hn hne hR k2 hst
  rcases Nat.lt_or_ge R spare with z | z
  · have t1 : decide ((R : Int) < (spare : Int)) = true := by rw [decide_eq_true_iff]; omega
    have F2 : Hid (appP L r spare = ((0, 80), L)) := Lib.hid (by rw [hAP.out, if_pos (.inl z)])
    clear how2 hle hle2 hln hbn
    go_upto_region 4 with fail
    go_quiet (first | (go_at_call 68; exact Calls.quiet_of_same ((crm.out _).mono fun _ _ hh => ⟨hh.1, hh.2.symm⟩)) | fail)
    go_wp2
    go_ret2
    exact ⟨by rw [F2.out]; rfl, by rw [F2.out]; exact LgPost.below H0.out (bel_drewN HBW.out _)⟩
  have t1 : decide ((R : Int) < (spare : Int)) = false := by rw [decide_eq_false_iff_not]; omega
  have u1 : ¬ (R < spare) := by omega
  obtain ⟨s, hs⟩ : ∃ s, n + ne = s := ⟨_, rfl⟩
  obtain ⟨d, hd⟩ : ∃ d, R - spare = d := ⟨_, rfl⟩
  have v2 : IntKind.i64.wrap (spare : Int) = (spare : Int) := by rw [IntKind.wrap_i64]; omega
  have v3 : IntKind.i64.wrap ((n : Int) + (ne : Int)) = (s : Int) := by rw [IntKind.wrap_i64]; omega
  have v4 : IntKind.i64.wrap ((R : Int) - (spare : Int)) = (d : Int) := by rw [IntKind.wrap_i64]; omega
  rw [hs, hd] at hAP
  by_cases hfull : d < s
  · have t2 : decide ((d : Int) < (s : Int)) = true := by rw [decide_eq_true_iff]; omega
    have F2 : Hid (appP L r spare = ((0, 80), L)) := Lib.hid (by rw [hAP.out, if_pos (.inr hfull)])
    clear z how2 hle hle2 hln hbn hs hd hRb
    go_upto_region 4 with fail
    go_quiet (first | (go_at_call 68; exact Calls.quiet_of_same ((crm.out _).mono fun _ _ hh => ⟨hh.1, hh.2.symm⟩)) | fail)
    go_wp2
    go_ret2
    exact ⟨by rw [F2.out]; rfl, by rw [F2.out]; exact LgPost.below H0.out (bel_drewN HBW.out _)⟩
  have t2 : decide ((d : Int) < (s : Int)) = false := by rw [decide_eq_false_iff_not]; omega
  have F2 : Hid (appP L r spare = ((L.h.base + L.stream.length, 0), { L with starts := L.starts ++ [L.stream.length], stream := L.stream ++ encL r })) := Lib.hid (by
    rw [hAP.out, if_neg (by omega), HN.out])
  have hsR : s ≤ 300000 := by omega
  have hn3 : n ≤ 300000 := by omega
  clear z hs hd hln
  go_upto_region 4 with fail
  go_quiet (first | (go_at_call 68; exact Calls.quiet_of_same ((crm.out _).mono fun _ _ hh => ⟨hh.1, hh.2.symm⟩)) | fail)
  rename Nat => nq
  have HB3 := Lib.hid (bel_drewN HBW.out nq)
  have hL3 := HL2.out.below (bel_drewN (Below.refl w2.heap.size w2) nq)
  have how3 : (w2.drewN nq).ownsRow w.heap.size 5 1 (.slice A ne c) ne ((encL r).map byteV) := how2
  clear c7 crm how2 HBW HL2 HBV
  generalize World.drewN w2 nq = w3 at *
  have cend := end_any hL3.log.blk (by rw [HN.out]; exact hbn)
  rw [HN.out] at cend
  go_wp2_with fail
  refine cend.mono ?_
  rintro e w4 ⟨rfl, hd4⟩
  have hB4 := hd4.below w3.heap.size
  have hL4 := hL3.below hB4
  have how4 := hd4.own how3
  obtain ⟨As, cs, rfl, hcs, -⟩ := hL4.log.places
  have st4 := hL4.log.strt
  have c7 : w4.drew.cell? ⟨gl, 7, none⟩ = some (.slice Av n cv) := by rw [← HN.out]; exact hL4.log.blk.cell 7
  have c8 : w4.drew.cell? ⟨gl, 8, none⟩ = some (.slice As L.starts.length cs) := hL4.log.blk.cell 8
  obtain ⟨k, hk⟩ : ∃ k, L.starts.length = k := ⟨_, rfl⟩
  have HB4 : Hid (Below w.heap.size w w4) := Lib.hid (HB3.out.trans (hB4.mono HB3.out.size))
  rw [hk] at hL4 st4
  have HL4 := Lib.hid hL4
  have HK := Lib.hid hk
  have c8b : Hid (∀ W, Below w4.heap.size w4 W → W.cell? ⟨gl, 8, none⟩ = some (.slice As k cs) ∧ W.cell? ⟨gl, 7, none⟩ = some (.slice Av n cv)) := Lib.hid fun W hW => by
    have kk := (HL4.out.below hW).log.blk
    exact ⟨kk.cell 8, by rw [← HN.out]; exact kk.cell 7⟩
  rw [hk] at c8 hsn
  clear cend hd4 hL3 how3 hB4 hL4 hk hcs
  go_upto_region 7 with fail
  go_cut [] (fun wx => ∃ A' c', Lg { L with starts := L.starts ++ [n] } D wx F (grow G w4 wx) gl pd (.slice Av L.stream.length cv) (.slice A' (k + 1) c') ∧ Only G w4 wx)
  case first =>
    have b4 : Below w4.heap.size w4 (w4.alloc (.cells #[.int .i64 (n : Int)] 3)).drew := (below_alloc w4 (.cells #[.int .i64 (n : Int)] 3)).drew
    have k4 : (w4.alloc (.cells #[.int .i64 (n : Int)] 3)).drew.ownsRow 0 3 1 (.slice As k cs) k (placeV L.starts) := kept_below b4 st4
    obtain ⟨q8, q7⟩ := c8b.out _ b4
    clear st4
    go_wp2_with fail
    go_region_law
      (first
        | (refine step_append_at (by rfl) _ _ 80 80 (by rfl) 0 3 i0 _ 8 Tryz.underlying80 Tryz.underlying80 hi0 hz0 hz1 hz2 rfl (.slice As k cs) k (placeV L.starts) (by rfl) k4 (w4.heap.size + 1) (some ⟨w4.heap.size, 0, none⟩) 1 1 [.int .i64 (n : Int)] (by rfl) rfl (At.drew (At.new w4 [.int .i64 (n : Int)] 3 (0, 0))) (by simp [Value.oneCell']) (by unfold maxLen; omega) (by omega) (Nat.zero_le _) ?_; intro A6 c6 w6 ho6 hg6 hat6; have hP := Lg.place (x := n) HL4.out b4 HK.out ho6 hg6 hat6; have s8 : w6.cell? ⟨gl, 8, none⟩ = some (.slice As k cs) := hP.1.cell 8; have z8 : w6.frozen? ⟨gl, 8, none⟩ = false := hP.1.frozen 8; have HP := Lib.hid hP.2; clear hP)
        | fail)
    all_goals
      go_wp2
      go_meet
      case rel => exact ⟨_, _, HP.out.1, HP.out.2⟩
  case rest =>
    rename World => wx
    obtain ⟨A6, c6, hLx, hO⟩ := hcut
    clear c7 c8 c8b st4
    have how5 := hO.own how4 fun b e q => by
      have := (how4.lt b e).1
      have := H0.out.hiG b q
      omega
    have hsmx := hLx.log.strm
    have cx7 : wx.cell? ⟨gl, 7, none⟩ = some (.slice Av L.stream.length cv) := hLx.log.blk.cell 7
    have HLX := Lib.hid hLx
    have HO := Lib.hid hO
    have hnl : L.stream.length ≤ 300000 := by rw [HN.out]; omega
    obtain ⟨t, ht⟩ : ∃ t, L.stream.length + ne = t := ⟨_, rfl⟩
    have HT : Hid ((L.stream ++ encL r).length = t) := Lib.hid (by rw [List.length_append, HNE.out, ht])
    have hbe := own_bytes how5 hsm
    clear hLx hO how4
    go_wp2_with (at_builtin; refine wpList_append_strm hsmx rfl _ _ rfl rfl wx.heap.size A ne c (encL r) rfl HNE.out hbe (by omega) (by show L.stream.length + ne ≤ 1000000; omega) ?_; intro A8 c8 w8 ho8 hO8 hat8; (rw [ht] at ho8 hat8); have hP := Lg.stream HLX.out hsm (n := t) HT.out ho8 hO8 hat8; have s7 : w8.cell? ⟨gl, 7, none⟩ = some (.slice Av L.stream.length cv) := hP.1.cell 7; have z7 : w8.frozen? ⟨gl, 7, none⟩ = false := hP.1.frozen 7; have HP := Lib.hid hP.2; clear hP ho8 hO8 hat8)
    go_ret2
    refine ⟨by rw [F2.out, HN.out]; rfl, ?_⟩
    rw [F2.out]
    show LgPost { L with starts := L.starts ++ [L.stream.length], stream := L.stream ++ encL r } D F G gl pd w _
    refine LgPost.lead HB4.out ?_
    refine LgPost.trans (F' := F) (G' := grow G w4 wx) (fun b q => .inl q) (fun b q => q) (HO.out.mono fun b q => .inl (.inr q)) ?_
    have := HP.out
    rw [← HN.out] at this
    exact ⟨F, _, _, _, this.1, fun b q => .inl q, fun b q => q, this.2.mono fun b q => .inl (.inr q)⟩
end Go.Proofs.YtkganajbilnanaaGreat
