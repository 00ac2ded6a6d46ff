/- The log, plain: its records. Conditions: none; no program in sight. -/
import Derived.Test.YtkganajbilnanaaGreatYWU
import Derived.Test.YtkganajbilnanaaGreatYRecE
set_option linter.unusedVariables false
set_option linter.unusedSimpArgs false
namespace Go.Proofs.YtkganajbilnanaaGreat
open NumMath
def offs (p : Nat) : List RecP → List Nat
  | [] => []
  | r :: rs => p :: offs (p + (encL r).length) rs
def offK (rs : List RecP) (k : Nat) : Nat := ((rs.take k).flatMap encL).length
def GoodR (rs : List RecP) : Prop := ∀ r ∈ rs, okR r = true ∧ r.Fits
theorem encL_len {r : RecP} (h : okR r = true) : 27 ≤ (encL r).length ∧ (encL r).length ≤ 2206 := by
  have := bodyL_length h
  rw [encL_length]
  omega
theorem offs_length (rs : List RecP) : ∀ p, (offs p rs).length = rs.length := by
  induction rs with
  | nil => exact fun _ => rfl
  | cons r rs ih => exact fun p => by simp [offs, ih]
theorem offK_zero (rs : List RecP) : offK rs 0 = 0 := rfl
theorem offK_cons (r : RecP) (rs : List RecP) (k : Nat) : offK (r :: rs) (k + 1) = (encL r).length + offK rs k := by unfold offK; simp
theorem offs_at (rs : List RecP) : ∀ (p k : Nat), k < rs.length → (offs p rs)[k]? = some (p + offK rs k) := by
  induction rs with
  | nil => intro p k h; cases h
  | cons r rs ih =>
    intro p k h
    cases k with
    | zero => rfl
    | succ k =>
      show (offs (p + (encL r).length) rs)[k]? = _
      rw [ih _ _ (by simpa using h), offK_cons, Nat.add_assoc]
theorem offs_snoc (rs : List RecP) (r : RecP) : ∀ p, offs p (rs ++ [r]) = offs p rs ++ [p + (rs.flatMap encL).length] := by
  induction rs with
  | nil => intro p; simp [offs]
  | cons x rs ih =>
    intro p
    show p :: offs (p + (encL x).length) (rs ++ [r]) = _
    rw [ih]
    simp [offs, Nat.add_assoc]
theorem offK_all (rs : List RecP) {k : Nat} (h : rs.length ≤ k) : offK rs k = (rs.flatMap encL).length := by unfold offK; rw [List.take_of_length_le h]
theorem offK_succ {rs : List RecP} {k : Nat} (h : k < rs.length) : offK rs (k + 1) = offK rs k + (encL rs[k]).length := by
  unfold offK
  rw [List.take_succ_eq_append_getElem h, List.flatMap_append, List.length_append]
  simp
theorem offK_le (rs : List RecP) (k : Nat) : offK rs k ≤ (rs.flatMap encL).length := by
  have : rs.flatMap encL = (rs.take k).flatMap encL ++ (rs.drop k).flatMap encL := by rw [← List.flatMap_append, List.take_append_drop]
  rw [this, List.length_append]
  exact Nat.le_add_right _ _
theorem offK_step {rs : List RecP} (h : GoodR rs) {k : Nat} (hk : k < rs.length) : offK rs k + 27 ≤ offK rs (k + 1) := by
  rw [offK_succ hk]
  have := (encL_len (h _ (List.getElem_mem hk)).1).1
  omega
theorem offK_mono {rs : List RecP} (h : GoodR rs) : ∀ {j k : Nat}, j ≤ k → k ≤ rs.length → offK rs j + 27 * (k - j) ≤ offK rs k := by
  intro j k hjk
  induction k with
  | zero =>
    intro _
    obtain rfl : j = 0 := by omega
    omega
  | succ k ih =>
    intro hk
    rcases Nat.lt_or_ge k j with z | z
    · obtain rfl : j = k + 1 := by omega
      omega
    · have h1 := ih z (by omega)
      have h2 := offK_step h (k := k) (by omega)
      have h3 : k + 1 - j = (k - j) + 1 := by omega
      rw [h3]
      omega
theorem drop_off (rs : List RecP) {k : Nat} (hk : k < rs.length) : (rs.flatMap encL).drop (offK rs k) = encL rs[k] ++ (rs.drop (k + 1)).flatMap encL := by
  have : rs.flatMap encL = (rs.take k).flatMap encL ++ (encL rs[k] ++ (rs.drop (k + 1)).flatMap encL) := by
    conv => lhs; rw [← List.take_append_drop k rs, List.drop_eq_getElem_cons hk]
    rw [List.flatMap_append, List.flatMap_cons]
  rw [this]
  exact List.drop_left' rfl
theorem take_off (rs : List RecP) (k : Nat) : (rs.flatMap encL).take (offK rs k) = (rs.take k).flatMap encL := by
  have : rs.flatMap encL = (rs.take k).flatMap encL ++ (rs.drop k).flatMap encL := by rw [← List.flatMap_append, List.take_append_drop]
  rw [this]
  exact List.take_left' rfl
structure LogP.recs (L : LogP) (rs : List RecP) : Prop where
  stream : L.stream = rs.flatMap encL
  starts : L.starts = offs 0 rs
  good : GoodR rs
section
variable {L : LogP} {rs : List RecP}
theorem LogP.recs.cnt (h : L.recs rs) : L.starts.length = rs.length := by rw [h.starts, offs_length]
theorem LogP.recs.at_ (h : L.recs rs) {k : Nat} (hk : k < rs.length) : L.starts[k]? = some (offK rs k) := by rw [h.starts, offs_at rs 0 k hk, Nat.zero_add]
theorem LogP.recs.get (h : L.recs rs) {k x : Nat} (hx : L.starts[k]? = some x) : k < rs.length ∧ x = offK rs k := by
  have hk : k < rs.length := by
    have := (List.getElem?_eq_some_iff.1 hx).1
    rw [h.cnt] at this
    exact this
  rw [h.at_ hk] at hx
  injection hx with hx
  exact ⟨hk, hx.symm⟩
theorem LogP.recs.mono (h : L.recs rs) : ∀ (s t a b : Nat), s ≤ t → L.starts[s]? = some a → L.starts[t]? = some b → a ≤ b := fun s t a b hst ha hb => by
  obtain ⟨_, rfl⟩ := h.get ha
  obtain ⟨ht, rfl⟩ := h.get hb
  have := offK_mono h.good hst (Nat.le_of_lt ht)
  omega
theorem LogP.recs.inn (h : L.recs rs) : ∀ x ∈ L.starts, x ≤ L.stream.length := fun x hx => by
  obtain ⟨k, hk, rfl⟩ := List.mem_iff_getElem.1 hx
  obtain ⟨h1, h2⟩ := h.get (List.getElem?_eq_getElem hk)
  rw [h2, h.stream]
  exact offK_le _ _
theorem LogP.recs.many (h : L.recs rs) : 27 * rs.length ≤ L.stream.length := by
  have := offK_mono h.good (Nat.zero_le rs.length) (Nat.le_refl _)
  rw [offK_zero, offK_all rs (Nat.le_refl _), ← h.stream] at this
  omega
theorem LogP.recs.hit (h : L.recs rs) {k : Nat} (hk : k < rs.length) : atP L (L.h.base + offK rs k) = (k, true) := by
  have h1 := offK_step h.good hk
  have h2 := offK_le rs (k + 1)
  have hc : cntP L.starts (offK rs k) = k := cnt_eq (by rw [h.cnt]; omega) fun t y hy => by
    obtain ⟨ht, rfl⟩ := h.get hy
    refine ⟨fun q => ?_, fun q => ?_⟩
    · have := offK_mono h.good (show t ≤ k by omega) (Nat.le_of_lt hk)
      omega
    · have := offK_mono h.good q (Nat.le_of_lt ht)
      omega
  unfold atP
  rw [if_neg (by omega), if_neg (by rw [h.stream]; omega), Nat.add_sub_cancel_left, hc, h.at_ hk]
  simp
theorem LogP.recs.hit' (h : L.recs rs) {lsn : Nat} (ht : (atP L lsn).2 = true) : ∃ k, k < rs.length ∧ lsn = L.h.base + offK rs k := by
  unfold atP at ht
  split at ht
  · cases ht
  · split at ht
    · cases ht
    · simp only [decide_eq_true_iff] at ht
      obtain ⟨h1, h2⟩ := h.get ht
      exact ⟨_, h1, by omega⟩
theorem LogP.recs.behind (h : L.recs rs) {k : Nat} (hk : k < rs.length) : behindP L.starts L.stream.length k = offK rs (k + 1) := by
  unfold behindP
  rcases Nat.lt_or_ge (k + 1) rs.length with z | z
  · rw [h.at_ z]
    rfl
  · rw [List.getElem?_eq_none (by rw [h.cnt]; exact z), offK_all rs z, h.stream]
    rfl
theorem LogP.recs.snoc (h : L.recs rs) {r : RecP} (hr : okR r = true) (hf : r.Fits) : LogP.recs { L with starts := L.starts ++ [L.stream.length], stream := L.stream ++ encL r } (rs ++ [r]) :=
  ⟨by show L.stream ++ encL r = _; rw [h.stream]; simp, by show L.starts ++ [L.stream.length] = _; rw [offs_snoc, h.starts, h.stream, Nat.zero_add], fun x hx => by
    rcases List.mem_append.1 hx with z | z
    · exact h.good x z
    · rw [List.mem_singleton.1 z]; exact ⟨hr, hf⟩⟩
end
structure LogP.fit (L : LogP) (rs : List RecP) : Prop where
  strips : L.strips ≤ 700
  fits : L.h.Fits
  area : L.h.area < 2
  slot : L.slot ≤ 1
  len : L.stream.length ≤ L.strips * 127
  lasts : L.lasts ≤ L.stream.length
  base : L.h.base + L.stream.length < 18446744073709551616
  recs : L.recs rs
theorem LogP.fit.ok {L : LogP} {rs : List RecP} (h : L.fit rs) : L.ok :=
  ⟨h.strips, h.fits, h.area, h.slot, h.len, h.lasts, h.base, h.recs.mono, by
    have h1 := h.recs.many
    have h2 := h.recs.cnt
    have h3 := h.len
    have h4 := h.strips
    omega, h.recs.inn⟩
theorem dec_enc {r : RecP} (h : okR r = true) (hf : r.Fits) (rest : List Nat) : decN (encL r ++ rest) = (encL r).length ∧ readP ((encL r ++ rest).take (decN (encL r ++ rest))) = some r := by
  have h1 := encL_decN h rest
  refine ⟨h1, ?_⟩
  rw [h1, List.take_left' rfl, readP_enc h hf]
end Go.Proofs.YtkganajbilnanaaGreat
namespace Go.Proofs.YtkganajbilnanaaGreat
open Go.ChangeShapes Go.WideShapes Go.ChangeAt Go.RowKit
open NumMath
set_option maxRecDepth 20000
theorem decode_rec {A : Option Addr} {c : Nat} {l rest : List Nat} {r : RecP} {w : World} (h : Bytes w w.heap.size A l) (hc : l.length ≤ c) (hl : l.length ≤ 100000) (el : l = encL r ++ rest) (hr : okR r = true) (hf : r.Fits) :
    Calls Tryz.prog 28 #[.slice A l.length c] w fun e w' => Below w.heap.size w w' ∧ ∃ m, e = .returned (.tuple #[.agg (recA r m), .int .i64 ((encL r).length : Nat), .int .u16 0]) ∧ RecFrom w.heap.size w' r m := by
  obtain ⟨d1, d2⟩ := dec_enc hr hf rest
  rw [← el] at d1 d2
  have hlen : l.length = (encL r).length + rest.length := by rw [el, List.length_append]
  have h27 := (encL_len hr).1
  refine (decode_any h hc hl).mono ?_
  rintro e w' ⟨hb, hor⟩
  refine ⟨hb, ?_⟩
  rcases hor with ⟨q, -⟩ | ⟨q1, q2, q3, hor⟩
  · omega
  · rcases hor with ⟨z, -⟩ | ⟨r', m, z, e1, hfr⟩
    · rw [d2] at z
      cases z
    · rw [d2] at z
      injection z with z
      subst z
      exact ⟨m, by rw [e1, d1], hfr⟩
def ReadRP (L : LogP) (rs : List RecP) (lsn : Nat) (w : World) (e : Ending) (w' : World) : Prop :=
  Below w.heap.size w w' ∧ ((∃ k r m, rs[k]? = some r ∧ lsn = L.h.base + offK rs k ∧ e = .returned (.tuple #[.agg (recA r m), .int .u64 ((lsn + (encL r).length : Nat) : Int), .int .u16 0]) ∧ RecFrom w.heap.size w' r m) ∨
    ((∀ k, k < rs.length → lsn ≠ L.h.base + offK rs k) ∧ e = .returned (.tuple #[.agg (recA recZ memZ), .int .u64 0, .int .u16 81])))
set_option maxHeartbeats 8000000 in
theorem rd_any {L : LogP} {rs : List RecP} {D : DevP} {w : World} {F G : Nat → Prop} {gl : Nat} {pd sv st : Value} (h : Lg L D w F G gl pd sv st) (hk : L.fit rs) (lsn : Nat) (hlsn : lsn < 18446744073709551616) :
    Calls Tryz.prog 48 #[.pointer (some ⟨gl, 0, none⟩), .int .u64 (lsn : Nat)] w (ReadRP L rs lsn w) := by
  have kz : Blk (w.alloc (.cells #[.int .u8 0, .int .u32 0, .int .u64 0, .int .u64 0, .int .u32 0, .int .u16 0, .bool false, .bool false, .slice none 0 0, .slice none 0 0, .slice none 0 0, .slice none 0 0] 51)) w.heap.size 51 (recA recZ memZ) := Blk.new w _ _
  have hb := below_alloc w (.cells #[.int .u8 0, .int .u32 0, .int .u64 0, .int .u64 0, .int .u32 0, .int .u16 0, .bool false, .bool false, .slice none 0 0, .slice none 0 0, .slice none 0 0, .slice none 0 0] 51)
  have cat := at_lg (h.below hb) hk.ok lsn hlsn
  have hh := hk.recs.hit' (lsn := lsn)
  have hm : ∀ k, k < rs.length → lsn = L.h.base + offK rs k → atP L lsn = (k, true) := fun k q e => by rw [e]; exact hk.recs.hit q
  have HL := Lib.hid (h.below hb)
  have HFIT := Lib.hid hk
  clear h hk
  go_enter Tryz.func48, Tryz.ntmps48
  go_upto_region 1 with fail
  generalize World.alloc w _ = w1 at *
  have hgz := kz.lt
  generalize hbx : w.heap.size = bx at *
  have hbs : bx ≤ w1.heap.size := by omega
  go_wp2_with fail
  refine cat.mono ?_
  rintro e w2 ⟨rfl, hd2⟩
  have hB2 := hd2.below w1.heap.size
  have hbw := hb.trans (hB2.mono hbs)
  have hbs2 : bx ≤ w2.heap.size := Nat.le_trans hbs hB2.size
  have kz2 := kz.below hB2 hgz
  have HL2 := Lib.hid (HL.out.below hB2)
  clear cat
  rcases Bool.eq_false_or_eq_true (atP L lsn).2 with ht | hf
  rotate_left
  · have st := store_rec_all kz2 rfl recZ memZ
    have k2 := row_blk kz2 (recA recZ memZ)
    have FIN : Hid (ReadRP L rs lsn w (.returned (.tuple #[.agg (recA recZ memZ), .int .u64 0, .int .u16 81])) (w2.setRow bx (recA recZ memZ))) := Lib.hid ⟨by rw [hbx]; exact hbw.trans ((only_row w2 bx (recA recZ memZ)).below hbs2 fun x q => by omega), .inr ⟨fun k q e => (by have := hm k q e; rw [this] at hf; cases hf), rfl⟩⟩
    have K2 := Lib.hid k2
    rw [hf]
    clear hm hh k2 kz2 hf hbw hB2 hd2 kz hb HL HL2 hbs hbs2
    go_wp2_with (refine wpList_store_run rfl 51 (.tmp 4) (.tmp 20) _ _ rfl rfl rfl st ?_; clear st)
    refine bodyPost_ret (results_dec rfl _ _ bx _ rfl (load_whole K2.out)) rfl ?_
    exact FIN.out
  obtain ⟨k, hkl, hk⟩ := hh ht
  have hat := hm k hkl hk
  rw [hat]
  obtain ⟨r, hr⟩ : ∃ r, rs[k]? = some r := ⟨_, List.getElem?_eq_getElem hkl⟩
  have hrk : rs[k] = r := by rw [List.getElem?_eq_getElem hkl] at hr; exact Option.some.inj hr
  have hdr := drop_off rs hkl
  rw [← HFIT.out.recs.stream, hrk] at hdr
  obtain ⟨hok, hfr⟩ := HFIT.out.recs.good r (List.mem_of_getElem? hr)
  have hxo := HFIT.out.recs.at_ hkl
  have hxn : offK rs k + (encL r).length ≤ L.stream.length := by
    have := congrArg List.length hdr
    rw [List.length_drop, List.length_append] at this
    have := offK_le rs k
    rw [← HFIT.out.recs.stream] at this
    have := (encL_len hok).1
    omega
  obtain ⟨x, hx⟩ : ∃ x, offK rs k = x := ⟨_, rfl⟩
  rw [hx] at hdr hxo hxn
  have hlsn2 : lsn = L.h.base + x := by rw [← hx]; exact hk
  obtain ⟨nr, hnr⟩ : ∃ nr, (encL r).length = nr := ⟨_, rfl⟩
  rw [hnr] at hxn
  have h27 := (encL_len hok).1
  rw [hnr] at h27
  have hbase := HFIT.out.base
  have hlen := HFIT.out.len
  have hstr := HFIT.out.strips
  have OUTR : Hid (∀ W m, Below w2.heap.size w2 W → RecFrom w2.heap.size W r m → ReadRP L rs lsn w (.returned (.tuple #[.agg (recA r m), .int .u64 ((lsn + nr : Nat) : Int), .int .u16 0])) (W.setRow bx (recA r m))) := Lib.hid fun W m a b =>
    ⟨by rw [hbx]; exact (hbw.trans (a.mono hbs2)).trans ((only_row W bx (recA r m)).below (Nat.le_trans hbs2 a.size) fun x q => by omega), .inl ⟨k, r, m, hr, hk, by rw [hnr], (b.only (S := fun q => q = bx) (only_row W bx (recA r m)) (fun q h => by have := kz2.lt; omega)).less (by rw [hbx]; exact hbs2)⟩⟩
  have HNR := Lib.hid hnr
  obtain ⟨n, hn⟩ : ∃ n, L.stream.length = n := ⟨_, rfl⟩
  rw [hn] at hbase hlen hxn
  obtain ⟨Av, cv, rfl, hcv, hbv⟩ := HL2.out.log.bytes
  obtain ⟨As, cs, rfl, hcs, hps⟩ := HL2.out.log.places
  obtain ⟨hkp, hkx⟩ := List.getElem?_eq_some_iff.1 hxo
  obtain ⟨gs, os, rfl, hgs, hcel⟩ := hps k (by unfold placeV; rw [List.length_map]; exact hkp)
  unfold placeV at hcel
  rw [List.getElem_map, hkx] at hcel
  obtain ⟨ga, oa, rfl, hga, -⟩ := hbv.1 0 (by rw [List.length_map]; omega)
  have k2 := HL2.out.log.blk
  have hgl := k2.lt
  rw [hn] at hcv
  obtain ⟨ns, hns⟩ : ∃ ns, L.starts.length = ns := ⟨_, rfl⟩
  rw [hns] at hkp
  have CEL : Hid (∀ W, Below w2.heap.size w2 W → W.cell? ⟨gl, 7, none⟩ = some (.slice (some ⟨ga, oa, none⟩) n cv) ∧ W.cell? ⟨gl, 8, none⟩ = some (.slice (some ⟨gs, os, none⟩) ns cs) ∧ W.cell? ⟨gs, os + k, none⟩ = some (.int .i64 (x : Nat))) := Lib.hid fun W a => by
    have kk := k2.below a hgl
    exact ⟨by rw [← hn]; exact kk.cell 7, by rw [← hns]; exact kk.cell 8, (a.cell (p := ⟨gs, os + k, none⟩) hgs).trans hcel⟩
  have DEC : Hid (∀ W, Below w2.heap.size w2 W → Calls Tryz.prog 28 #[.slice (some ⟨ga, oa + x, none⟩) (n - x) (cv - x)] W fun e w' => Below W.heap.size W w' ∧ ∃ m, e = .returned (.tuple #[.agg (recA r m), .int .i64 (nr : Nat), .int .u16 0]) ∧ RecFrom W.heap.size w' r m) := Lib.hid fun W a => by
    have hbW : Bytes W W.heap.size (some ⟨ga, oa + x, none⟩) (L.stream.drop x) := ((hbv.below a).more a.size).drop x
    have := decode_rec (c := cv - x) hbW (by rw [List.length_drop, hn]; omega) (by rw [List.length_drop, hn]; omega) hdr hok hfr
    rw [List.length_drop, hn, hnr] at this
    exact this
  have i1 : (0 : Int) ≤ (k : Int) := by omega
  have i2 : (k : Int) < (ns : Int) := by omega
  have i3 : (0 : Int) ≤ (x : Int) := by omega
  have i4 : (x : Int) ≤ (n : Int) := by omega
  have i5 : (n : Int) ≤ (cv : Int) := by omega
  have i6 : (cv = x) = False := eq_false (by omega)
  have V1 : Hid (IntKind.u64.wrap (nr : Int) = (nr : Int)) := Lib.hid (by rw [IntKind.wrap_u64]; omega)
  obtain ⟨nx, hnx⟩ : ∃ nx, lsn + nr = nx := ⟨_, rfl⟩
  have V2 : Hid (IntKind.u64.wrap ((lsn : Int) + (nr : Int)) = (nx : Int)) := Lib.hid (by rw [IntKind.wrap_u64]; omega)
  rw [hnx] at OUTR
  have KZ2 := Lib.hid kz2
  have hgz2 : bx < w2.heap.size := kz2.lt
  have bd := below_drew0 w2
  clear hh hm ht hkl hk hat hr hrk hdr hok hfr hxo hx hnr hxn h27 hlsn2 hbase hlen hstr hn hcv hbv hcs hps hkx hkp hcel k2 hns hnx kz2 hbw hB2 hd2 kz hb HL hbs hbs2
  go_upto_region 4 with fail
  go_cut [9, 10, 11] (fun v9 v10 v11 wx => ∃ gx m, v9 = .pointer (some ⟨gx, 0, none⟩) ∧ v10 = .int .i64 (nr : Nat) ∧ v11 = .int .u16 0 ∧ Blk wx gx 51 (recA r m) ∧ RecFrom w2.heap.size wx r m ∧ Below w2.heap.size w2 wx)
  case first =>
    go_wp2_with fail
    refine wp_region_noPanic ?_
    refine wp_region_held_drew (S := fun W => W.cell? ⟨gl, 7, none⟩ = some (.slice (some ⟨ga, oa, none⟩) n cv) ∧ W.cell? ⟨gl, 8, none⟩ = some (.slice (some ⟨gs, os, none⟩) ns cs) ∧ W.cell? ⟨gs, os + k, none⟩ = some (.int .i64 (x : Nat))) (by kernel_rfl) (CEL.out _ bd) (fun hHeld => ?_)
    refine wpAnyH_take (i := 0) (v := ?_) rfl (by kernel_rfl) (by kernel_rfl) (by kernel_rfl) (fun _ _ _ h => h) (Or.inl ⟨by rfl, ?_⟩) (by assumption) ?_
    rotate_left
    · (intro w hSw); (try dsimp only at hSw); go_simp; (try with_reducible rfl)
    try simp only [Act.put, List.getElem_toArray, List.getElem_cons_succ, List.getElem_cons_zero, List.setIfInBounds_toArray, List.set_cons_zero, List.set_cons_succ]
    refine wpAnyH_take (i := 1) (v := ?_) rfl (by kernel_rfl) (by kernel_rfl) (by kernel_rfl) (fun _ _ _ h => h) (Or.inl ⟨by rfl, ?_⟩) (by assumption) ?_
    rotate_left
    · (intro w hSw); (try dsimp only at hSw); go_simp; (try with_reducible rfl)
    try simp only [Act.put, List.getElem_toArray, List.getElem_cons_succ, List.getElem_cons_zero, List.setIfInBounds_toArray, List.set_cons_zero, List.set_cons_succ]
    refine wpAnyH_take (i := 2) (v := ?_) rfl (by kernel_rfl) (by kernel_rfl) (by kernel_rfl) (fun _ _ _ h => h) (Or.inl ⟨by rfl, ?_⟩) (by assumption) ?_
    rotate_left
    · (intro w hSw); (try dsimp only at hSw); go_simp; (try with_reducible rfl)
    try simp only [Act.put, List.getElem_toArray, List.getElem_cons_succ, List.getElem_cons_zero, List.setIfInBounds_toArray, List.set_cons_zero, List.set_cons_succ]
    refine wpAnyH_take (i := 3) (v := ?_) rfl (by kernel_rfl) (by kernel_rfl) (by kernel_rfl) (fun _ _ _ h => h) (Or.inl ⟨by rfl, ?_⟩) (by assumption) ?_
    rotate_left
    · (intro w hSw); (try dsimp only at hSw); go_simp; (try with_reducible rfl)
    try simp only [Act.put, List.getElem_toArray, List.getElem_cons_succ, List.getElem_cons_zero, List.setIfInBounds_toArray, List.set_cons_zero, List.set_cons_succ]
    refine wpAnyH_take (i := 4) (v := ?_) rfl (by kernel_rfl) (by kernel_rfl) (by kernel_rfl) (fun _ _ _ h => h) (Or.inl ⟨by rfl, ?_⟩) (by assumption) ?_
    rotate_left
    · (intro w hSw); (try dsimp only at hSw); go_simp; (try with_reducible rfl)
    try simp only [Act.put, List.getElem_toArray, List.getElem_cons_succ, List.getElem_cons_zero, List.setIfInBounds_toArray, List.set_cons_zero, List.set_cons_succ]
    refine wpAnyH_take (i := 5) (v := ?_) rfl (by kernel_rfl) (by kernel_rfl) (by kernel_rfl) (fun _ _ _ h => h) (Or.inl ⟨by rfl, ?_⟩) (by assumption) ?_
    rotate_left
    · (intro w hSw); (try dsimp only at hSw); go_simp; (try with_reducible rfl)
    try simp only [Act.put, List.getElem_toArray, List.getElem_cons_succ, List.getElem_cons_zero, List.setIfInBounds_toArray, List.set_cons_zero, List.set_cons_succ]
    refine wpAnyH_take (i := 6) (v := ?_) rfl (by kernel_rfl) (by kernel_rfl) (by kernel_rfl) (fun _ _ _ h => h) (Or.inl ⟨by rfl, ?_⟩) (by assumption) ?_
    rotate_left
    · (intro w hSw); (try dsimp only at hSw); go_simp; (try with_reducible rfl)
    try simp only [Act.put, List.getElem_toArray, List.getElem_cons_succ, List.getElem_cons_zero, List.setIfInBounds_toArray, List.set_cons_zero, List.set_cons_succ]
    refine wpAnyH_take (i := 7) (v := ?_) rfl (by kernel_rfl) (by kernel_rfl) (by kernel_rfl) (fun _ _ _ h => h) (Or.inl ⟨by rfl, ?_⟩) (by assumption) ?_
    rotate_left
    · (intro w hSw); (try dsimp only at hSw); go_simp; (try with_reducible rfl)
    try simp only [Act.put, List.getElem_toArray, List.getElem_cons_succ, List.getElem_cons_zero, List.setIfInBounds_toArray, List.set_cons_zero, List.set_cons_succ]
    refine wpAnyH_take (i := 8) (v := ?_) rfl (by kernel_rfl) (by kernel_rfl) (by kernel_rfl) (fun _ _ _ h => h) (Or.inl ⟨by rfl, ?_⟩) (by assumption) ?_
    rotate_left
    · (intro w hSw); (try dsimp only at hSw); go_simp; (try with_reducible rfl)
    try simp only [Act.put, List.getElem_toArray, List.getElem_cons_succ, List.getElem_cons_zero, List.setIfInBounds_toArray, List.set_cons_zero, List.set_cons_succ]
    refine wpAnyH_take (i := 9) (v := ?_) rfl (by kernel_rfl) (by kernel_rfl) (by kernel_rfl) (fun _ _ _ h => h) (Or.inl ⟨by rfl, ?_⟩) (by assumption) ?_
    rotate_left
    · (intro w hSw); (try dsimp only at hSw); go_simp; (try with_reducible rfl)
    try simp only [Act.put, List.getElem_toArray, List.getElem_cons_succ, List.getElem_cons_zero, List.setIfInBounds_toArray, List.set_cons_zero, List.set_cons_succ]
    refine wpAnyH_take (i := 10) (v := ?_) rfl (by kernel_rfl) (by kernel_rfl) (by kernel_rfl) (fun _ _ _ h => h) (Or.inl ⟨by rfl, ?_⟩) (by assumption) ?_
    rotate_left
    · (intro w hSw); (try dsimp only at hSw); go_simp; (try with_reducible rfl)
    try simp only [Act.put, List.getElem_toArray, List.getElem_cons_succ, List.getElem_cons_zero, List.setIfInBounds_toArray, List.set_cons_zero, List.set_cons_succ]
    refine wpAnyH_take (i := 11) (v := ?_) rfl (by kernel_rfl) (by kernel_rfl) (by kernel_rfl) (fun _ _ _ h => h) (Or.inl ⟨by rfl, ?_⟩) (by assumption) ?_
    rotate_left
    · (intro w hSw); (try dsimp only at hSw); go_simp; (try with_reducible rfl)
    try simp only [Act.put, List.getElem_toArray, List.getElem_cons_succ, List.getElem_cons_zero, List.setIfInBounds_toArray, List.set_cons_zero, List.set_cons_succ]
    refine wpAnyH_ready (rs := [12, 17]) (by kernel_rfl) (by simp) (AllReadyH.cons rfl (fun K hK => ?_) (AllReadyH.cons rfl (fun K hK => ?_) AllReadyH.nil))
    · try simp only [List.getElem_toArray, List.getElem_cons_succ, List.getElem_cons_zero]
      go_simp
      with_reducible refine (DEC.out _ bd).mono ?_
      rintro e w4 ⟨hb4, m, rfl, hfr⟩
      have b4 := bd.trans (hb4.mono bd.size)
      refine hK.out _ _ (CEL.out _ b4) (fun hHeld => ?_)
      clear hK K
      try simp only [Act.put, List.getElem_toArray, List.getElem_cons_succ, List.getElem_cons_zero, List.setIfInBounds_toArray, List.set_cons_zero, List.set_cons_succ]
      refine wpAnyH_take (i := 13) (v := ?_) rfl (by kernel_rfl) (by kernel_rfl) (by kernel_rfl) (fun _ _ _ h => h) (Or.inl ⟨by rfl, ?_⟩) (by assumption) ?_
      rotate_left
      · (intro w hSw); (try dsimp only at hSw); go_simp; (try with_reducible rfl)
      try simp only [Act.put, List.getElem_toArray, List.getElem_cons_succ, List.getElem_cons_zero, List.setIfInBounds_toArray, List.set_cons_zero, List.set_cons_succ]
      refine wpAnyH_take (i := 14) (v := ?_) rfl (by kernel_rfl) (by kernel_rfl) (by kernel_rfl) (fun _ _ _ h => h) (Or.inl ⟨by rfl, ?_⟩) (by assumption) ?_
      rotate_left
      · (intro w hSw); (try dsimp only at hSw); go_simp; (try with_reducible rfl)
      try simp only [Act.put, List.getElem_toArray, List.getElem_cons_succ, List.getElem_cons_zero, List.setIfInBounds_toArray, List.set_cons_zero, List.set_cons_succ]
      refine wpAnyH_take (i := 15) (v := ?_) rfl (by kernel_rfl) (by kernel_rfl) (by kernel_rfl) (fun _ _ _ h => h) (Or.inl ⟨by rfl, ?_⟩) (by assumption) ?_
      rotate_left
      · (intro w hSw); (try dsimp only at hSw); go_simp; (try with_reducible rfl)
      try simp only [Act.put, List.getElem_toArray, List.getElem_cons_succ, List.getElem_cons_zero, List.setIfInBounds_toArray, List.set_cons_zero, List.set_cons_succ]
      refine wpAnyH_take (i := 16) (v := ?_) rfl (by kernel_rfl) (by kernel_rfl) (by kernel_rfl) (fun _ _ _ h => h) (Or.inl ⟨by rfl, ?_⟩) (by assumption) ?_
      rotate_left
      · (intro w hSw); (try dsimp only at hSw); go_simp; (try with_reducible rfl)
      try simp only [Act.put, List.getElem_toArray, List.getElem_cons_succ, List.getElem_cons_zero, List.setIfInBounds_toArray, List.set_cons_zero, List.set_cons_succ]
      have ba := below_alloc w4 (.cells #[.int .u8 0, .int .u32 0, .int .u64 0, .int .u64 0, .int .u32 0, .int .u16 0, .bool false, .bool false, .slice none 0 0, .slice none 0 0, .slice none 0 0, .slice none 0 0] 51)
      have b5 := b4.trans (ba.mono b4.size)
      refine wpAnyH_ready (rs := [17]) (by kernel_rfl) (by simp) (AllReadyH.cons rfl (fun K hK => ?_) AllReadyH.nil)
      go_simp
      refine hK.out _ _ (CEL.out _ b5) (fun hHeld => ?_)
      clear hK K
      try simp only [Act.put, List.getElem_toArray, List.getElem_cons_succ, List.getElem_cons_zero, List.setIfInBounds_toArray, List.set_cons_zero, List.set_cons_succ]
      have bn := below_alloc w4 (.cells (recA r m) 51)
      have b6 := b4.trans (bn.mono b4.size)
      have FF : Hid (Blk (w4.alloc (.cells (recA r m) 51)) w4.heap.size 51 (recA r m) ∧ RecFrom w2.heap.size (w4.alloc (.cells (recA r m) 51)) r m ∧ Below w2.heap.size w2 (w4.alloc (.cells (recA r m) 51))) := Lib.hid ⟨Blk.new w4 _ _, RecFrom.less (RecFrom.only (S := fun _ => False) hfr (Only.of_below bn _) fun _ q => q.elim) bd.size, b6⟩
      refine wpAnyH_ready (rs := [18]) (by kernel_rfl) (by simp) (AllReadyH.cons rfl (fun K hK => ?_) AllReadyH.nil)
      refine step_store_run (by rfl) 51 (.tmp 9) (.tmp 35) _ _ (by rfl) (by rfl) (by rfl) (store_rec_new w4 r m) ?_
      refine hK.out _ _ (CEL.out _ b6) (fun hHeld => ?_)
      clear hK K
      try simp only [Act.put, List.getElem_toArray, List.getElem_cons_succ, List.getElem_cons_zero, List.setIfInBounds_toArray, List.set_cons_zero, List.set_cons_succ]
      refine wpAnyH_take (i := 19) (v := ?_) rfl (by kernel_rfl) (by kernel_rfl) (by kernel_rfl) (fun _ _ _ h => h) (Or.inl ⟨by rfl, ?_⟩) (by assumption) ?_
      rotate_left
      · (intro w hSw); (try dsimp only at hSw); go_simp; (try with_reducible rfl)
      try simp only [Act.put, List.getElem_toArray, List.getElem_cons_succ, List.getElem_cons_zero, List.setIfInBounds_toArray, List.set_cons_zero, List.set_cons_succ]
      refine wpAnyH_take (i := 20) (v := ?_) rfl (by kernel_rfl) (by kernel_rfl) (by kernel_rfl) (fun _ _ _ h => h) (Or.inl ⟨by rfl, ?_⟩) (by assumption) ?_
      rotate_left
      · (intro w hSw); (try dsimp only at hSw); go_simp; (try with_reducible rfl)
      try simp only [Act.put, List.getElem_toArray, List.getElem_cons_succ, List.getElem_cons_zero, List.setIfInBounds_toArray, List.set_cons_zero, List.set_cons_succ]
      refine wpAnyH_done (by kernel_rfl) ?_ _
      refine NoPanic.normal ?_
      go_wp2
      go_meet
      case rel => exact ⟨_, m, rfl, rfl, rfl, FF.out.1, FF.out.2.1, FF.out.2.2⟩
    · try simp only [List.getElem_toArray, List.getElem_cons_succ, List.getElem_cons_zero]
      have ba := (below_alloc w2 (.cells #[.int .u8 0, .int .u32 0, .int .u64 0, .int .u64 0, .int .u32 0, .int .u16 0, .bool false, .bool false, .slice none 0 0, .slice none 0 0, .slice none 0 0, .slice none 0 0] 51)).drew
      have kn : Blk (w2.alloc (.cells #[.int .u8 0, .int .u32 0, .int .u64 0, .int .u64 0, .int .u32 0, .int .u16 0, .bool false, .bool false, .slice none 0 0, .slice none 0 0, .slice none 0 0, .slice none 0 0] 51)).drew w2.heap.size 51 (recA recZ memZ) := (Blk.new w2 _ _).drew
      go_simp
      refine hK.out _ _ (CEL.out _ ba) (fun hHeld => ?_)
      clear hK K
      try simp only [Act.put, List.getElem_toArray, List.getElem_cons_succ, List.getElem_cons_zero, List.setIfInBounds_toArray, List.set_cons_zero, List.set_cons_succ]
      refine wpAnyH_ready (rs := [12]) (by kernel_rfl) (by simp) (AllReadyH.cons rfl (fun K hK => ?_) AllReadyH.nil)
      go_simp
      with_reducible refine (DEC.out _ ba).mono ?_
      rintro e w4 ⟨hb4, m, rfl, hfr⟩
      have b4 := ba.trans (hb4.mono ba.size)
      have kb4 := kn.below hb4 kn.lt
      have hlo := kn.lt
      refine hK.out _ _ (CEL.out _ b4) (fun hHeld => ?_)
      clear hK K
      try simp only [Act.put, List.getElem_toArray, List.getElem_cons_succ, List.getElem_cons_zero, List.setIfInBounds_toArray, List.set_cons_zero, List.set_cons_succ]
      refine wpAnyH_take (i := 13) (v := ?_) rfl (by kernel_rfl) (by kernel_rfl) (by kernel_rfl) (fun _ _ _ h => h) (Or.inl ⟨by rfl, ?_⟩) (by assumption) ?_
      rotate_left
      · (intro w hSw); (try dsimp only at hSw); go_simp; (try with_reducible rfl)
      try simp only [Act.put, List.getElem_toArray, List.getElem_cons_succ, List.getElem_cons_zero, List.setIfInBounds_toArray, List.set_cons_zero, List.set_cons_succ]
      refine wpAnyH_take (i := 14) (v := ?_) rfl (by kernel_rfl) (by kernel_rfl) (by kernel_rfl) (fun _ _ _ h => h) (Or.inl ⟨by rfl, ?_⟩) (by assumption) ?_
      rotate_left
      · (intro w hSw); (try dsimp only at hSw); go_simp; (try with_reducible rfl)
      try simp only [Act.put, List.getElem_toArray, List.getElem_cons_succ, List.getElem_cons_zero, List.setIfInBounds_toArray, List.set_cons_zero, List.set_cons_succ]
      refine wpAnyH_take (i := 15) (v := ?_) rfl (by kernel_rfl) (by kernel_rfl) (by kernel_rfl) (fun _ _ _ h => h) (Or.inl ⟨by rfl, ?_⟩) (by assumption) ?_
      rotate_left
      · (intro w hSw); (try dsimp only at hSw); go_simp; (try with_reducible rfl)
      try simp only [Act.put, List.getElem_toArray, List.getElem_cons_succ, List.getElem_cons_zero, List.setIfInBounds_toArray, List.set_cons_zero, List.set_cons_succ]
      refine wpAnyH_take (i := 16) (v := ?_) rfl (by kernel_rfl) (by kernel_rfl) (by kernel_rfl) (fun _ _ _ h => h) (Or.inl ⟨by rfl, ?_⟩) (by assumption) ?_
      rotate_left
      · (intro w hSw); (try dsimp only at hSw); go_simp; (try with_reducible rfl)
      try simp only [Act.put, List.getElem_toArray, List.getElem_cons_succ, List.getElem_cons_zero, List.setIfInBounds_toArray, List.set_cons_zero, List.set_cons_succ]
      have b6 := b4.trans ((only_row w4 w2.heap.size (recA r m)).below b4.size fun q h => by rw [h]; exact Nat.le_refl _)
      have FF : Hid (Blk (w4.setRow w2.heap.size (recA r m)) w2.heap.size 51 (recA r m) ∧ RecFrom w2.heap.size (w4.setRow w2.heap.size (recA r m)) r m ∧ Below w2.heap.size w2 (w4.setRow w2.heap.size (recA r m))) := Lib.hid ⟨row_blk kb4 _, RecFrom.less (RecFrom.only (S := fun b => b = w2.heap.size) hfr (only_row w4 w2.heap.size (recA r m)) fun b q => by rw [q]; exact hlo) ba.size, b6⟩
      refine wpAnyH_ready (rs := [18]) (by kernel_rfl) (by simp) (AllReadyH.cons rfl (fun K hK => ?_) AllReadyH.nil)
      refine step_store_run (by rfl) 51 (.tmp 9) (.tmp 35) _ _ (by rfl) (by rfl) (by rfl) (store_rec_all kb4 rfl r m) ?_
      refine hK.out _ _ (CEL.out _ b6) (fun hHeld => ?_)
      clear hK K
      try simp only [Act.put, List.getElem_toArray, List.getElem_cons_succ, List.getElem_cons_zero, List.setIfInBounds_toArray, List.set_cons_zero, List.set_cons_succ]
      refine wpAnyH_take (i := 19) (v := ?_) rfl (by kernel_rfl) (by kernel_rfl) (by kernel_rfl) (fun _ _ _ h => h) (Or.inl ⟨by rfl, ?_⟩) (by assumption) ?_
      rotate_left
      · (intro w hSw); (try dsimp only at hSw); go_simp; (try with_reducible rfl)
      try simp only [Act.put, List.getElem_toArray, List.getElem_cons_succ, List.getElem_cons_zero, List.setIfInBounds_toArray, List.set_cons_zero, List.set_cons_succ]
      refine wpAnyH_take (i := 20) (v := ?_) rfl (by kernel_rfl) (by kernel_rfl) (by kernel_rfl) (fun _ _ _ h => h) (Or.inl ⟨by rfl, ?_⟩) (by assumption) ?_
      rotate_left
      · (intro w hSw); (try dsimp only at hSw); go_simp; (try with_reducible rfl)
      try simp only [Act.put, List.getElem_toArray, List.getElem_cons_succ, List.getElem_cons_zero, List.setIfInBounds_toArray, List.set_cons_zero, List.set_cons_succ]
      refine wpAnyH_done (by kernel_rfl) ?_ _
      refine NoPanic.normal ?_
      go_wp2
      go_meet
      case rel => exact ⟨_, m, rfl, rfl, rfl, FF.out.1, FF.out.2.1, FF.out.2.2⟩
  case rest =>
    rename World => wx
    obtain ⟨gx, m, rfl, rfl, rfl, kx, hfx, hbx2⟩ := hcut
    have ld := load_rec kx
    have kzx := KZ2.out.below hbx2 hgz2
    have st := store_rec_all kzx rfl r m
    have K2 := Lib.hid (row_blk kzx (recA r m))
    have FIN := Lib.hid (OUTR.out wx m hbx2 hfx)
    have v1 := V1.out
    have v2 := V2.out
    clear kx kzx hfx hbx2 OUTR
    go_wp2_with (first
      | (refine wpList_load_run rfl 51 (.tmp 9) _ _ rfl rfl ld ?_; clear ld)
      | (refine wpList_store_run rfl 51 (.tmp 4) (.tmp 38) _ _ rfl rfl rfl st ?_; clear st)
      | fail)
    refine bodyPost_ret (results_dec rfl _ _ bx _ rfl (load_whole K2.out)) rfl ?_
    exact FIN.out
end Go.Proofs.YtkganajbilnanaaGreat
