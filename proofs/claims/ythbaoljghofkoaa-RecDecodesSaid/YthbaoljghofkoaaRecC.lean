/- rec: Encode. Conditions: the record lies there. -/
import Derived.Test.YthbaoljghofkoaaRecT
import Derived.Test.YthbaoljghofkoaaCrcW
import Derived.Test.YthbaoljghofkoaaCopy
import Derived.Deep.RegionHeld3
import Derived.Deep.CutBlock
namespace Go.Proofs.Ythbaoljghofkoaa
open Go.ChangeShapes Go.WideShapes Go.ChangeAt Go.RowKit
open NumMath
set_option linter.unusedVariables false
set_option linter.unusedSimpArgs false
set_option maxRecDepth 20000

def EncPost (r : RecP) (w : World) (e : Ending) (w' : World) : Prop :=
  Below w.heap.size w w' ∧ ((okR r = true ∧ ∃ A c, e = .returned (.tuple #[.slice A (encL r).length c, .int .u16 0]) ∧ w'.ownsRow w.heap.size 5 1 (.slice A (encL r).length c) (encL r).length ((encL r).map byteV)) ∨
    (okR r = false ∧ e = .returned (.tuple #[.slice none 0 0, .int .u16 61])))
theorem below_drew0 (w : World) : Below w.heap.size w w.drew := (Below.refl _ _).drew
theorem u8_one : (Try.prog.info? 5).map (·.size) = some 1 := by kernel_rfl
theorem zeros6 : (madeCells (Value.int .u8 0).cells (6 * 1)).toList = (List.replicate 6 0).map byteV := by
  rw [List.map_replicate]
  exact toList_madeCells_one _ 6
set_option maxHeartbeats 16000000 in
theorem encode_any (r : RecP) (m : RecMm) (B : Nat) (w : World) (h : RecAt w B r m) (hB : B ≤ w.heap.size) :
    Calls Try.prog 12 #[.agg (recA r m)] w (EncPost r w) := by
  obtain ⟨i0, hi0, hz0, hz1, hz2⟩ := info_parts u8_info
  have kb := Blk.new w 31 (recA r m)
  have hb := below_alloc w (.cells (recA r m) 31)
  have hfit := h.fits
  have hfit' := h.fits
  go_enter Try.func12, Try.ntmps12
  go_upto_region 1 with fail
  generalize World.alloc w _ = w1 at *
  have ld := load_rec kb
  have hR1 := h.below (hb.mono hB)
  have cm := may_any r m B w1 hR1 (Nat.le_trans hB hb.size)
  go_wp2_with (refine wpList_load_run rfl 31 (.tmp 1) _ _ rfl rfl ld ?_; clear ld)
  refine cm.mono ?_
  rintro e w2 ⟨rfl, b2⟩
  have kb2 := kb.below b2 kb.lt
  have hR2 := hR1.below (b2.mono (Nat.le_trans hB hb.size))
  have hb2 := hb.trans (b2.mono hb.size)
  have hgt : w.heap.size < w2.heap.size := Nat.lt_of_lt_of_le kb.lt b2.size
  clear cm kb hb b2 hR1 h
  cases hok : okR r
  · have FIN : Hid (EncPost r w (.returned (.tuple #[.slice none 0 0, .int .u16 61])) w2) := Lib.hid ⟨hb2, .inr ⟨hok, rfl⟩⟩
    clear hok kb2 hR2 hb2
    go_wp2
    go_ret2
    exact FIN.out
  · obtain ⟨hl1, hl2⟩ := bodyL_length hok
    obtain ⟨hn1, hn2, hn3, hn4⟩ := okR_lens hok
    have HOK := Lib.hid hok
    clear hok
    go_upto_region 4 with (at_make; refine wpList_make_full _ rfl _ _ 25 rfl w2.heap.size 5 i0 _ 1 Try.underlying25 hi0 hz0 hz1 .i64 .i64 _ _ 6 rfl rfl rfl rfl (by rw [hz2]; omega) (by unfold maxLen; omega) (Nat.le_refl _) ?_; intro w3 hown3 hg3)
    have hb3 : Below w2.heap.size w2 w3 := (Below.refl _ _).grown hg3 (Nat.le_refl _) (by simp)
    rw [zeros6] at hown3
    have hg2 : w2.heap.size < w3.heap.size := (hown3.lt w2.heap.size rfl).2
    have hbx := below_alloc w3 (.cells #[.slice (some ⟨w2.heap.size, 0, none⟩) 6 6] 54)
    have hW : WrE w.heap.size (w3.alloc (.cells #[.slice (some ⟨w2.heap.size, 0, none⟩) 6 6] 54)) (fun b => b = w3.heap.size ∨ b = w2.heap.size) w3.heap.size (List.replicate 6 0) (w3.alloc (.cells #[.slice (some ⟨w2.heap.size, 0, none⟩) 6 6] 54)) :=
      ⟨some ⟨w2.heap.size, 0, none⟩, 6, Blk.new w3 _ _, kept_none (below_none hbx) (own_base hb2.size hown3), fun k hk => .inl (.inr (by injection hk with hk; exact hk.symm)), Only.refl _ _, .inl rfl, by have := hbx.size; omega, (Blk.new w3 54 #[.slice (some ⟨w2.heap.size, 0, none⟩) 6 6]).lt, fun x hx => by rw [(List.mem_replicate.1 hx).2]; omega⟩
    have kb4 := (kb2.below hb3 kb2.lt).below hbx (kb2.below hb3 kb2.lt).lt
    have hR4 := (hR2.below (hb3.mono (by omega))).below (hbx.mono (by omega))
    have hb4 := (hb2.trans (hb3.mono hb2.size)).trans (hbx.mono (by omega))
    have hS : ∀ b, (b = w3.heap.size ∨ b = w2.heap.size) → w.heap.size < b := fun b q => by omega
    have hne32 : w3.heap.size ≠ w2.heap.size := by omega
    clear hown3 hg3 hb3 hbx kb2 hR2 hb2
    generalize World.alloc w3 _ = W0 at *
    generalize w3.heap.size = p at *
    generalize w2.heap.size = g0 at *
    have hk : ∀ W, Only (fun b => b = p ∨ b = g0) W0 W → RecBox W w.heap.size r m := fun W hW => RecBox.of (kb4.only hW (fun q => by have := hS _ q; omega))
    have hkb : ∀ W, Only (fun b => b = p ∨ b = g0) W0 W → Blk W w.heap.size 31 (recA r m) := fun W hW => kb4.only hW (fun q => by have := hS _ q; omega)
    have hB4 : B ≤ W0.heap.size := Nat.le_trans hB hb4.size
    have hS2 : ∀ b, (b = p ∨ b = g0) → B ≤ b := fun b q => by have := hS b q; omega
    obtain ⟨f0, f1, f2, f3, -, -, -⟩ := hfit
    have q0 := (RecBox.of kb4).k0
    have v1 : IntKind.u64.wrap (r.kind : Int) = (r.kind : Int) := by rw [IntKind.wrap_u64]; omega
    have v2 : IntKind.u64.wrap (r.txn : Int) = (r.txn : Int) := by rw [IntKind.wrap_u64]; omega
    have cn1 := wnum_any r.kind 1 (by omega) (by omega) (by omega) hW (by simp)
    clear kb4 hW
    go_wp2_with fail
    refine cn1.mono ?_
    rintro e w4 ⟨rfl, h4⟩
    have q1 := (hk w4 h4.only).k1
    have cn2 := wnum_any r.txn 4 (by omega) (by omega) (by omega) h4 (by simp [putF_length])
    clear cn1 q0 h4
    go_wp2_with fail
    refine cn2.mono ?_
    rintro e w5 ⟨rfl, h5⟩
    have q2 := (hk w5 h5.only).k2
    have cn3 := wnum_any r.prev 8 f2 (by omega) (by omega) h5 (by simp [putF_length])
    clear cn2 q1 h5
    go_wp2_with fail
    refine cn3.mono ?_
    rintro e w6 ⟨rfl, h6⟩
    have q3 := (hk w6 h6.only).k3
    have cn4 := wnum_any r.next 8 f3 (by omega) (by omega) h6 (by simp [putF_length])
    clear cn3 q2 h6
    go_wp2_with fail
    refine cn4.mono ?_
    rintro e w7 ⟨rfl, h7⟩
    have hll : (((List.replicate 6 0 ++ putF 1 r.kind) ++ putF 4 r.txn) ++ putF 8 r.prev) ++ putF 8 r.next = List.replicate 6 0 ++ headB r := by unfold headB; simp only [List.append_assoc]
    rw [hll] at h7
    have hhl := headB_length r
    have ld := load_rec (hkb w7 h7.only)
    have cc := changes_any r m w7
    clear cn4 q3 hll
    have hbody : List.replicate 6 0 ++ bodyL r = (List.replicate 6 0 ++ headB r) ++ (if chgs r.kind = true then chgL r.chg else if r.kind = 8 then tabL r else []) := by unfold bodyL; rw [List.append_assoc]
    have HBODY := Lib.hid hbody
    clear hbody
    go_upto_block 0 with fail
    go_cut [] (fun wx => WrE w.heap.size W0 (fun b => b = p ∨ b = g0) p (List.replicate 6 0 ++ bodyL r) wx)
    case first =>
      go_wp2_with (refine wpList_load_run rfl 31 (.tmp 1) _ _ rfl rfl ld ?_; clear ld)
      refine cc.mono ?_
      rintro e w8 ⟨rfl, b8⟩
      have h8 : WrE w.heap.size W0 (fun b => b = p ∨ b = g0) p (List.replicate 6 0 ++ headB r) w8 := by obtain ⟨A, c, z⟩ := h7; exact ⟨A, c, z.below b8⟩
      have hl27 : (List.replicate 6 0 ++ headB r).length = 27 := by rw [List.length_append, hhl]; rfl
      clear cc b8 h7
      cases hch : chgs r.kind
      · have q0 := (hk w8 h8.only).k0
        by_cases hk8 : r.kind = 8
        · have HB2 : Hid (List.replicate 6 0 ++ bodyL r = (List.replicate 6 0 ++ headB r) ++ tabL r) := Lib.hid (by rw [HBODY.out, hch, if_neg (by simp), if_pos hk8])
          have t1 : ((r.kind : Int) == 8) = true := by rw [beq_iff_eq]; omega
          have ld := load_rec (hkb w8 h8.only)
          have ct := wtables_any r m B h8 hR4 hB4 hS2 (by rw [hl27]; omega) hn1 hn2
          clear hk8 h8 hch
          go_wp2_with (refine wpList_load_run rfl 31 (.tmp 1) _ _ rfl rfl ld ?_; clear ld)
          refine ct.mono ?_
          rintro e w9 ⟨rfl, h9⟩
          have FIN := Lib.hid h9
          clear ct h9
          go_wp2
          go_meet
          case rel => rw [HB2.out]; exact FIN.out
        · have HB2 : Hid (List.replicate 6 0 ++ bodyL r = List.replicate 6 0 ++ headB r) := Lib.hid (by rw [HBODY.out, hch, if_neg (by simp), if_neg hk8, List.append_nil])
          have t1 : ((r.kind : Int) == 8) = false := by rw [beq_eq_false_iff_ne]; omega
          have FIN := Lib.hid h8
          clear hk8 h8 hch
          go_wp2
          go_meet
          case rel => rw [HB2.out]; exact FIN.out
      · have HB2 : Hid (List.replicate 6 0 ++ bodyL r = (List.replicate 6 0 ++ headB r) ++ chgL r.chg) := Lib.hid (by rw [HBODY.out, hch, if_pos rfl])
        have ld := load_chg (hkb w8 h8.only)
        have ct := wchange_any r.chg m.cm B h8 hR4.chg hB4 hS2 (by rw [hl27]; omega) (by omega) (by omega)
        clear h8 hch
        go_wp2_with (refine wpList_load_run rfl 27 (.tmp 33) _ _ rfl rfl ld ?_; clear ld)
        refine ct.mono ?_
        rintro e w9 ⟨rfl, h9⟩
        have FIN := Lib.hid h9
        clear ct h9
        go_wp2
        go_meet
        case rel => rw [HB2.out]; exact FIN.out
    case rest =>
      have h10 := hcut
      clear hcut h7 ld cc hk hkb hR4 f0 f1 f2 f3 v1 v2
      rename World => wx
      obtain ⟨A, c, h10⟩ := h10
      have hbs := bodyL_small hfit'
      have HENC : Hid (encL r = putF 2 ((bodyL r).length + 6) ++ putF 4 (sumB (bodyL r)) ++ bodyL r) := Lib.hid rfl
      have hNl : (List.replicate 6 0 ++ bodyL r).length = (bodyL r).length + 6 := by rw [List.length_append, List.length_replicate]; omega
      have hbk := h10.blk
      have hown := h10.own
      have hbw : Below w.heap.size w wx := hb4.trans (h10.only.below hb4.size fun b q => by have := hS b q; omega)
      rw [hNl] at hbk hown
      have HEP : Hid (∀ w' c', Below w.heap.size w w' → w'.ownsRow w.heap.size 5 1 (.slice A (encL r).length c') (encL r).length ((encL r).map byteV) → EncPost r w (.returned (.tuple #[.slice A (encL r).length c', .int .u16 0])) w') := Lib.hid fun w' c' a b => ⟨a, .inl ⟨HOK.out, A, c', rfl, b⟩⟩
      have hEL := encL_length r
      generalize hbd : bodyL r = body at *
      obtain ⟨N, hN⟩ : ∃ N, body.length + 6 = N := ⟨_, rfl⟩
      rw [hN] at hbk hown hEL HENC
      have HN := Lib.hid hN
      have hN1 : 27 ≤ N ∧ N ≤ 2300 := by omega
      obtain ⟨g, rfl, hg1, hg2'⟩ := own_pos hown (by omega)
      have hNc : N ≤ c := by
        obtain ⟨A', c', e, h1, h2⟩ := own_form hown
        injection e with _ _ e
        omega
      have hpg : p ≠ g := by
        rcases own_block (by decide) hown hbk with z | z
        · simp [Value.ownBlock] at z
        · intro e; apply z; rw [e]; rfl
      have HBL := Lib.hid hbd
      clear h10 hNl hS hS2 hb4 hB4 hne32 hgt hbd hN hl1 hl2 hn1 hn2 hn3 hn4 hB hhl HBODY HOK hg2
      have hput := fun W => put_any N 2 W (by omega) (by omega) (by omega)
      rw [show putB N (2 : Int) = putF 2 N by unfold putB; rw [if_pos (by omega)]; rfl] at hput
      have vN : IntKind.u64.wrap (N : Int) = (N : Int) := by rw [IntKind.wrap_u64]; omega
      have hx0 : (List.map byteV (List.replicate 6 0 ++ body)).take 0 ++ (List.map byteV (putF 2 N)).take (min 2 N) ++ (List.map byteV (List.replicate 6 0 ++ body)).drop (0 + min 2 N) = (putF 2 N ++ (List.replicate 4 0 ++ body)).map byteV := by
        have : min 2 N = 2 := by omega
        rw [this, List.take_zero, List.nil_append, List.take_of_length_le (by rw [List.length_map, putF_length]; omega), ← List.map_drop, ← List.map_append]
        rfl
      go_upto_region 12 with fail
      go_cut [] (fun wy => Blk wy p 54 #[.slice (some ⟨g, 0, none⟩) N c] ∧ wy.ownsRow w.heap.size 5 1 (.slice (some ⟨g, 0, none⟩) N c) N ((putF 2 N ++ (List.replicate 4 0 ++ body)).map byteV) ∧ Below w.heap.size w wy)
      case first =>
        have hc := hbk.cell 0
        have hpw := hbk.lt
        have hbkd := hbk.drew
        have hownd : wx.drew.ownsRow w.heap.size 5 1 (.slice (some ⟨g, 0, none⟩) N c) N ((List.replicate 6 0 ++ body).map byteV) := hown
        have hbwd := hbw.drew
        have HX0 := Lib.hid hx0
        clear hx0 hbk hown hbw
        go_wp2_with fail
        go_region_law
          (first
            | (go_simp; go_at_call 26; refine (hput _).mono ?_; intro e w1 hret; obtain ⟨A1, c1, rfl, hown1, hb1, hx1⟩ := hret.is; clear hret; rw [putF_length]; have hbl1 := hbkd.below hb1 hpw; have hc1 := hbl1.cell 0)
            | (refine step_copy_at (by rfl) _ _ 25 25 (by rfl) 5 Try.underlying25 u8_one w.heap.size g 0 N c N c ((List.replicate 6 0 ++ body).map byteV) (by rfl) (kept_none (below_none hb1) hownd) (by omega) w1.heap.size A1 2 c1 ((putF 2 N).map byteV) (by rfl) (by rw [List.length_map, putF_length]) hx1.1 (bytes_oneCell _) ?_; intro w2 ho2 hg2; have hbl2 := hbl1.grown hg2 (by intro e; injection e with e; exact hpg e); have hbw2 := (hbwd.trans (hb1.mono hbwd.size)).trans (Below.grown (Below.refl _ _) hg2 (Nat.le_trans hbwd.size hb1.size) (fun k hk => by injection hk with hk; omega)); have hc2 := hbl2.cell 0)
            | fail)
        all_goals
          go_wp2
          go_meet
          case rel => exact ⟨hbl2, by rw [← HX0.out]; exact ho2, hbw2⟩
      case rest =>
        obtain ⟨hbk2, hown2, hbw2⟩ := hcut
        clear hx0 hbk hown hbw hput
        rename World => wy
        have hs2 : Small (putF 2 N ++ (List.replicate 4 0 ++ body)) := small_append (small_put _ _) (small_append (fun x hx => by rw [(List.mem_replicate.1 hx).2]; omega) hbs)
        have hby : Bytes wy wy.heap.size (some ⟨g, 0 + 6, none⟩) body := by
          have := (own_bytes hown2 hs2).drop 6
          exact this
        have hsl := sumB_lt hbs
        obtain ⟨s, hs⟩ : ∃ s, sumB body = s := ⟨_, rfl⟩
        have hput := fun W => put_any s 4 W (by omega) (by omega) (by omega)
        rw [show putB s (4 : Int) = putF 4 s by unfold putB; rw [if_pos (by omega)]; rfl] at hput
        have hsm : Calls Try.prog 27 #[.slice (some ⟨wy.heap.size, 0, none⟩) 1 1] (wy.alloc (.cells #[.slice (some ⟨g, 6, none⟩) (N - 6) (c - 6)] 25)).drew fun e w' => e = .returned (.int .u32 (s : Nat)) ∧ (wy.alloc (.cells #[.slice (some ⟨g, 6, none⟩) (N - 6) (c - 6)] 25)).drew = w' := by
          have hN6 : body.length = N - 6 := by have := HN.out; omega
          have ha : At (wy.alloc (.cells #[.slice (some ⟨g, 6, none⟩) (N - 6) (c - 6)] 25)) (wy.heap.size + 1) (some ⟨wy.heap.size, 0, none⟩) [.slice (some ⟨g, 6, none⟩) (N - 6) (c - 6)] := At.new wy _ _ (0, 0)
          rw [← hN6] at ha
          have hby6 : Bytes wy wy.heap.size (some ⟨g, 6, none⟩) body := hby
          have hbb : Bytes (wy.alloc (.cells #[.slice (some ⟨g, 6, none⟩) body.length (c - 6)] 25)).drew (wy.heap.size + 1) (some ⟨g, 6, none⟩) body := ((hby6.alloc (Nat.le_refl _) (.cells #[.slice (some ⟨g, 6, none⟩) body.length (c - 6)] 25)).more (show wy.heap.size ≤ wy.heap.size + 1 by omega))
          have := sum_any (some ⟨wy.heap.size, 0, none⟩) 1 [(some ⟨g, 6, none⟩, c - 6, body)] (wy.heap.size + 1) _ ha.drew (fun x hx => by
            rw [List.mem_singleton] at hx
            subst hx
            exact ⟨hbb, by show body.length ≤ 100000; omega⟩) (by simp)
          rw [hN6] at this
          have he : CrcMath.sumFrom 0 (allOf [(some ⟨g, 6, none⟩, c - 6, body)]) = s := by
            rw [← hs]
            unfold sumB allOf
            simp
          rw [he] at this
          exact this
        have vS : IntKind.u64.wrap (s : Int) = (s : Int) := by rw [IntKind.wrap_u64]; omega
        have hx0 : (List.map byteV (putF 2 N ++ (List.replicate 4 0 ++ body))).take 2 ++ (List.map byteV (putF 4 s)).take (min 4 (N - 2)) ++ (List.map byteV (putF 2 N ++ (List.replicate 4 0 ++ body))).drop (2 + min 4 (N - 2)) = (putF 2 N ++ putF 4 s ++ body).map byteV := by
          have : min 4 (N - 2) = 4 := by omega
          have e1 : (putF 2 N ++ (List.replicate 4 0 ++ body)).take 2 = putF 2 N := by rw [List.take_append_of_le_length (by rw [putF_length]; omega), List.take_of_length_le (by rw [putF_length]; omega)]
          have e2 : (putF 2 N ++ (List.replicate 4 0 ++ body)).drop 6 = body := rfl
          rw [this, List.take_of_length_le (l := List.map byteV (putF 4 s)) (by rw [List.length_map, putF_length]; omega), ← List.map_take, e1, ← List.map_drop, e2, ← List.map_append, ← List.map_append]
        have HENC2 : Hid (encL r = putF 2 N ++ putF 4 s ++ body) := Lib.hid (by rw [HENC.out, hs])
        have z1 : (2 : Int) ≤ (N : Int) := by omega
        have z2 : (6 : Int) ≤ (N : Int) := by omega
        have z3 : (N : Int) ≤ (c : Int) := by omega
        have z4 : (c = 2) = False := eq_false (by omega)
        have z5 : (c = 6) = False := eq_false (by omega)
        have HX0 := Lib.hid hx0
        clear hx0 hs hs2 hby hsl HENC
        go_upto_region 13 with fail
        go_cut [] (fun wz => Blk wz p 54 #[.slice (some ⟨g, 0, none⟩) N c] ∧ wz.ownsRow w.heap.size 5 1 (.slice (some ⟨g, 0, none⟩) N c) N ((putF 2 N ++ putF 4 s ++ body).map byteV) ∧ Below w.heap.size w wz)
        case first =>
          have hc0 := hbk2.drew.cell 0
          have hpw := hbk2.lt
          have hda : Below wy.heap.size wy (wy.alloc (.cells #[.slice (some ⟨g, 6, none⟩) (N - 6) (c - 6)] 25)).drew := (below_alloc wy _).drew
          have hbka := hbk2.below hda hpw
          have hca := hbka.cell 0
          have howna := kept_none (below_none hda) hown2
          have hbwa := hbw2.trans (hda.mono hbw2.size)
          clear hbk2 hown2 hbw2
          go_wp2_with fail
          go_region_held3 (fun w' => w'.cell? ⟨p, 0, none⟩ = some (.slice (some ⟨g, 0, none⟩) N c)) (first | exact hc0 | exact hca | exact hc1 | exact hc2) (first
            | ((with_reducible refine hsm.mono ?_); rintro e wS ⟨rfl, rfl⟩)
            | ((with_reducible refine (hput _).mono ?_); intro e w1 hret; obtain ⟨A1, c1, rfl, hown1, hb1, hx1⟩ := hret.is; clear hret; rw [putF_length]; have hbl1 := hbka.below hb1 hbka.lt; have hc1 := hbl1.cell 0)
            | (refine step_copy_at (by rfl) _ _ 25 25 (by rfl) 5 Try.underlying25 u8_one w.heap.size g 2 (N - 2) (c - 2) N c ((putF 2 N ++ (List.replicate 4 0 ++ body)).map byteV) (by rfl) (kept_none (below_none hb1) howna) (by omega) w1.heap.size A1 4 c1 ((putF 4 s).map byteV) (by rfl) (by rw [List.length_map, putF_length]) hx1.1 (bytes_oneCell _) ?_; intro w2 ho2 hg2; have hbl2 := hbl1.grown hg2 (by intro e; injection e with e; exact hpg e); have hbw2 := (hbwa.trans (hb1.mono hbwa.size)).trans (Below.grown (Below.refl _ _) hg2 (Nat.le_trans hbwa.size hb1.size) (fun k hk => by injection hk with hk; omega)); have hc2 := hbl2.cell 0)
            | fail)
          all_goals
            go_wp2
            go_meet
            case rel => exact ⟨hbl2, by rw [← HX0.out]; exact ho2, hbw2⟩
        case rest =>
          obtain ⟨hbk3, hown3, hbw3⟩ := hcut
          have hc3 := hbk3.cell 0
          rename World => wz
          have hf := HEP.out wz c hbw3 (by rw [hEL, HENC2.out]; exact hown3)
          rw [hEL] at hf
          have FIN := Lib.hid hf
          clear hbk3 hown3 hbw3 hf
          go_wp2
          go_ret2
          exact FIN.out
end Go.Proofs.Ythbaoljghofkoaa
