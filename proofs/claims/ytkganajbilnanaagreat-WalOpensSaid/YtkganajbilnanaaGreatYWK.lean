/- The log as it lies in memory, beside its device. Conditions: none. -/
import Derived.Test.YtkganajbilnanaaGreatYDiskD
import Derived.Test.YtkganajbilnanaaGreatYWH
import Derived.Test.YtkganajbilnanaaGreatYRecD
import Derived.Deep.QuietTactic
import Derived.BigQuiet
set_option linter.unusedVariables false
set_option linter.unusedSimpArgs false
namespace Go.Proofs.YtkganajbilnanaaGreat
open Go.ChangeShapes Go.WideShapes Go.ChangeAt Go.RowKit
open NumMath
def Strm (w : World) (G : Nat → Prop) (v : Value) (l : List Nat) : Prop :=
  Txt w G v l ∧ ((w.ownsRow 0 5 1 v l.length (l.map byteV) ∧ ∀ b, v.ownBlock = some b → G b) ∨ ∃ A, v = .slice A l.length l.length)
theorem Strm.only {w w' : World} {G S : Nat → Prop} {v : Value} {l : List Nat} (h : Strm w G v l) (ho : Only S w w') (hs : ∀ b, G b → U8 w b → ¬ S b) : Strm w' G v l := by
  obtain ⟨h1, h2⟩ := h
  refine ⟨h1.only ho hs, ?_⟩
  rcases h2 with ⟨q1, q2⟩ | q
  · refine .inl ⟨ho.own q1 fun k e => hs k (q2 k e) ?_, q2⟩
    obtain ⟨cs, f, z⟩ := own_ty q1 e
    exact ⟨cs, f, z⟩
  · exact .inr q
theorem Strm.mono {w : World} {G G' : Nat → Prop} {v : Value} {l : List Nat} (h : Strm w G v l) (hs : ∀ b, G b → G' b) : Strm w G' v l :=
  ⟨h.1.mono fun b q _ => hs b q, h.2.imp (fun q => ⟨q.1, fun b e => hs b (q.2 b e)⟩) id⟩
theorem Strm.nil (w : World) (G : Nat → Prop) : Strm w G (.slice none 0 0) [] := ⟨Txt.nil _ _, .inl ⟨World.ownsRow_nil _ _ _ _, fun b e => by cases e⟩⟩
theorem Strm.own {w : World} {G : Nat → Prop} {A : Option Addr} {n c base : Nat} {l : List Nat} (h : w.ownsRow base 5 1 (.slice A n c) n (l.map byteV)) (hn : l.length = n) (hl : Small l) (hG : ∀ b, (Value.slice A n c).ownBlock = some b → G b) : Strm w G (.slice A n c) l := by
  refine ⟨Txt.own h hn hl hG, .inl ⟨?_, hG⟩⟩
  subst hn
  exact own_base (Nat.zero_le _) h
structure LogAt (L : LogP) (w : World) (G : Nat → Prop) (gl : Nat) (dp sv st : Value) : Prop where
  blk : Blk w gl 82 (logV L.h dp L.strips L.slot sv st L.lasts)
  inG : G gl
  strm : Strm w G sv L.stream
  strt : w.ownsRow 0 3 1 st L.starts.length (placeV L.starts)
  strtG : ∀ b, st.ownBlock = some b → G b
section
variable {L L' : LogP} {w w' : World} {G G' S : Nat → Prop} {gl : Nat} {dp sv st : Value}
theorem LogAt.only (h : LogAt L w G gl dp sv st) (ho : Only S w w') (hs : ∀ b, G b → ¬ S b) : LogAt L w' G gl dp sv st :=
  ⟨h.blk.only ho (hs gl h.inG), h.inG, h.strm.only ho fun b q _ => hs b q, ho.own h.strt fun k e => hs k (h.strtG k e), h.strtG⟩
theorem LogAt.below (h : LogAt L w G gl dp sv st) (hb : Below w.heap.size w w') : LogAt L w' G gl dp sv st := h.only (Only.of_below hb (fun _ => False)) fun _ _ q => q
theorem LogAt.box (h : LogAt L w G gl dp sv st) (ho : Only (fun b => b = gl) w w') (hb : Blk w' gl 82 (logV L'.h dp L'.strips L'.slot sv st L'.lasts)) (h1 : L'.stream = L.stream) (h2 : L'.starts = L.starts) : LogAt L' w' G gl dp sv st := by
  have hgl : Ty w gl 82 := h.blk.ty
  refine ⟨hb, h.inG, ?_, ?_, h.strtG⟩
  · rw [h1]
    exact h.strm.only ho fun b _ hu e => by subst e; exact absurd (hu.uniq' hgl) (by decide)
  · rw [h2]
    exact ho.own h.strt fun k e q => by subst q; exact absurd ((own_ty h.strt e).uniq hgl) (by decide)
theorem LogAt.places (h : LogAt L w G gl dp sv st) : ∃ A c, st = .slice A L.starts.length c ∧ L.starts.length ≤ c ∧ At w w.heap.size A (placeV L.starts) := by
  obtain ⟨A, c, e, hc, _⟩ := own_form h.strt
  refine ⟨A, c, e, hc, ?_⟩
  have := h.strt
  rw [e] at this
  exact At.own this
theorem LogAt.bytes (h : LogAt L w G gl dp sv st) : ∃ A c, sv = .slice A L.stream.length c ∧ L.stream.length ≤ c ∧ Bytes w w.heap.size A L.stream := h.strm.1.bytes
end
structure Lg (L : LogP) (D : DevP) (w : World) (F G : Nat → Prop) (gl : Nat) (pd sv st : Value) : Prop where
  dev : IsDev D w F pd
  log : LogAt L w G gl pd sv st
  dis : ∀ b, F b → ¬ G b
  hiF : ∀ b, F b → b < w.heap.size
  hiG : ∀ b, G b → b < w.heap.size
def LgPost (L' : LogP) (D' : DevP) (F G : Nat → Prop) (gl : Nat) (pd : Value) (w w' : World) : Prop :=
  ∃ F' G' sv st, Lg L' D' w' F' G' gl pd sv st ∧ (∀ b, F' b → grow F w w' b) ∧ (∀ b, G' b → grow G w w' b) ∧ Only (fun b => F b ∨ G b) w w'
section
variable {L L' L1 : LogP} {D D' D1 : DevP} {w w' w1 : World} {F G F1 G1 : Nat → Prop} {gl : Nat} {pd sv st : Value}
theorem Lg.below (h : Lg L D w F G gl pd sv st) (hb : Below w.heap.size w w') : Lg L D w' F G gl pd sv st :=
  ⟨h.dev.below hb, h.log.below hb, h.dis, fun b q => Nat.lt_of_lt_of_le (h.hiF b q) hb.size, fun b q => Nat.lt_of_lt_of_le (h.hiG b q) hb.size⟩
theorem Lg.drew (h : Lg L D w F G gl pd sv st) : Lg L D w.drew F G gl pd sv st := h.below (below_drew0 w)
theorem Lg.devPost (h : Lg L D w F G gl pd sv st) (hp : DevPost D' F pd w w') : Lg L D' w' (grow F w w') G gl pd sv st :=
  ⟨hp.1, h.log.only hp.2 fun b q q' => h.dis b q' q, fun b q q' => q.elim (fun z => h.dis b z q') fun z => by have := h.hiG b q'; omega,
    fun b q => q.elim (fun z => Nat.lt_of_lt_of_le (h.hiF b z) hp.2.size) fun z => z.2, fun b q => Nat.lt_of_lt_of_le (h.hiG b q) hp.2.size⟩
theorem Lg.box (h : Lg L D w F G gl pd sv st) (ho : Only (fun b => b = gl) w w') (hb : Blk w' gl 82 (logV L'.h pd L'.strips L'.slot sv st L'.lasts)) (h1 : L'.stream = L.stream) (h2 : L'.starts = L.starts) : Lg L' D w' F G gl pd sv st :=
  ⟨h.dev.only ho fun b q e => by subst e; exact h.dis b q h.log.inG, h.log.box ho hb h1 h2, h.dis, fun b q => Nat.lt_of_lt_of_le (h.hiF b q) ho.size, fun b q => Nat.lt_of_lt_of_le (h.hiG b q) ho.size⟩
theorem LgPost.below (h : Lg L D w F G gl pd sv st) (hb : Below w.heap.size w w') : LgPost L D F G gl pd w w' := ⟨F, G, sv, st, h.below hb, fun b q => .inl q, fun b q => .inl q, Only.of_below hb _⟩
theorem LgPost.dev (h : Lg L D w F G gl pd sv st) (hp : DevPost D' F pd w w') : LgPost L D' F G gl pd w w' := ⟨_, G, sv, st, h.devPost hp, fun b q => q, fun b q => .inl q, hp.2.mono fun b q => .inl (.inl q)⟩
theorem LgPost.box (h : Lg L D w F G gl pd sv st) (ho : Only (fun b => b = gl) w w') (hb : Blk w' gl 82 (logV L'.h pd L'.strips L'.slot sv st L'.lasts)) (h1 : L'.stream = L.stream) (h2 : L'.starts = L.starts) : LgPost L' D F G gl pd w w' :=
  ⟨F, G, sv, st, h.box ho hb h1 h2, fun b q => .inl q, fun b q => .inl q, ho.mono fun b e => .inl (.inr (by rw [e]; exact h.log.inG))⟩
theorem LgPost.trans {F' G' : Nat → Prop} (hF : ∀ b, F' b → grow F w w1 b) (hG : ∀ b, G' b → grow G w w1 b) (ho : Only (fun b => F b ∨ G b) w w1) (h2 : LgPost L' D' F' G' gl pd w1 w') : LgPost L' D' F G gl pd w w' := by
  obtain ⟨F2, G2, sv, st, q1, q2, q3, q4⟩ := h2
  have hs := ho.size
  have key : ∀ {A B C : Nat → Prop} {b : Nat}, (∀ b, A b → grow B w w1 b) → (∀ b, C b → grow A w1 w' b) → C b → grow B w w' b := fun {A B C b} h1 h2 q => by
    rcases h2 b q with z | z
    · rcases h1 b z with y | y
      · exact .inl y
      · exact .inr ⟨y.1, Nat.lt_of_lt_of_le y.2 q4.size⟩
    · exact .inr ⟨Nat.le_trans hs z.1, z.2⟩
  refine ⟨F2, G2, sv, st, q1, fun b q => key hF q2 q, fun b q => key hG q3 q, ho.trans q4 fun b q => ?_⟩
  rcases q with q | q
  · rcases hF b q with z | z
    · exact .inl (.inl z)
    · exact .inr z.1
  · rcases hG b q with z | z
    · exact .inl (.inr z)
    · exact .inr z.1
theorem LgPost.lead (hb : Below w.heap.size w w1) (h2 : LgPost L' D' F G gl pd w1 w') : LgPost L' D' F G gl pd w w' :=
  LgPost.trans (fun b q => .inl q) (fun b q => .inl q) (Only.of_below hb _) h2
end
end Go.Proofs.YtkganajbilnanaaGreat
namespace Go.Proofs.YtkganajbilnanaaGreat
open Go.ChangeShapes Go.WideShapes Go.ChangeAt Go.RowKit
open NumMath
set_option maxRecDepth 20000
def logZ (strips : Nat) : LogP := ⟨⟨0, 0, 0, 0⟩, strips, 0, [], [], 0⟩
def OnPost (D : DevP) (pd : Value) (w : World) (e : Ending) (w' : World) : Prop :=
  Below w.heap.size w w' ∧ ((D.size 0 < 18 ∧ e = .returned (.tuple #[.pointer none, .int .u16 82])) ∨
    (18 ≤ D.size 0 ∧ e = .returned (.tuple #[.pointer (some ⟨w.heap.size, 0, none⟩), .int .u16 0]) ∧ LogAt (logZ ((D.size 0 - 2) / 2)) w' (fun b => b = w.heap.size) w.heap.size pd (.slice none 0 0) (.slice none 0 0)))
theorem on_any {D : DevP} {w : World} {F : Nat → Prop} {pd : Value} (h : IsDev D w F pd) (hs : D.size 0 ≤ 4096) :
    Calls Tryz.prog 23 #[pd] w (OnPost D pd w) := by
  have cs := sizes_any h 0 (by omega)
  obtain ⟨gp, s, lv, X, rfl, -⟩ := h
  obtain ⟨n, hn⟩ : ∃ n, D.size 0 = n := ⟨_, rfl⟩
  rw [hn] at cs
  unfold OnPost
  rw [hn] at hs ⊢
  clear hn
  rcases Nat.lt_or_ge n 18 with z | z
  · obtain ⟨q, hq⟩ : ∃ q : Int, ((n : Int) - 2).tdiv 2 = q := ⟨_, rfl⟩
    have v1 : IntKind.i64.wrap ((n : Int) - 2) = (n : Int) - 2 := by rw [IntKind.wrap_i64]; omega
    have hq8 : q < 8 := by rw [← hq]; have := Int.tdiv_le_tdiv (show (0:Int) < 2 by omega) (show (n : Int) - 2 ≤ 15 by omega); have e : (15 : Int).tdiv 2 = 7 := by decide
                           omega
    have hqm : -2 ≤ q := by rw [← hq]; have := Int.tdiv_le_tdiv (show (0:Int) < 2 by omega) (show (-2 : Int) ≤ (n : Int) - 2 by omega); have e : (-2 : Int).tdiv 2 = -1 := by decide
                            omega
    have v2 : wrap64 q = q := by unfold wrap64; omega
    have v3 : IntKind.i64.wrap q = q := by rw [IntKind.wrap_i64]; omega
    have t1 : decide (q < 8) = true := by rw [decide_eq_true_iff]; exact hq8
    clear hq8 hqm
    have HB := Lib.hid (below_alloc w (.cells #[.int .u64 0, .int .u64 0, .int .u64 0, .int .i64 0, .pointer (some ⟨gp, 0, none⟩), .int .i64 q, .int .i64 0, .slice none 0 0, .slice none 0 0, .int .i64 0] 82))
    go_enter Tryz.func23, Tryz.ntmps23
    go_wp2_with fail
    refine cs.mono ?_
    rintro e w2 ⟨rfl, rfl⟩
    clear cs
    go_wp2
    go_ret2
    exact ⟨HB.out, .inl ⟨z, rfl⟩⟩
  · obtain ⟨q, hq⟩ : ∃ q : Nat, (n - 2) / 2 = q := ⟨_, rfl⟩
    have v1 : IntKind.i64.wrap ((n : Int) - 2) = ((n - 2 : Nat) : Int) := by rw [IntKind.wrap_i64]; omega
    have v2 : ((n - 2 : Nat) : Int).tdiv 2 = (q : Int) := by rw [← hq]; exact (Int.ofNat_tdiv (n - 2) 2).symm
    have v2' : ((n - 2 : Nat) : Int) / 2 = (q : Int) := by omega
    have v3 : wrap64 (q : Int) = (q : Int) := by unfold wrap64; omega
    have v4 : IntKind.i64.wrap (q : Int) = (q : Int) := by rw [IntKind.wrap_i64]; omega
    have t1 : decide ((q : Int) < 8) = false := by rw [decide_eq_false_iff_not]; omega
    have u1 : ¬ (q < 8) := by omega
    have kb := Blk.new w 82 #[.int .u64 0, .int .u64 0, .int .u64 0, .int .i64 0, .pointer (some ⟨gp, 0, none⟩), .int .i64 q, .int .i64 0, .slice none 0 0, .slice none 0 0, .int .i64 0]
    have HB := Lib.hid (And.intro (below_alloc w (.cells #[.int .u64 0, .int .u64 0, .int .u64 0, .int .i64 0, .pointer (some ⟨gp, 0, none⟩), .int .i64 q, .int .i64 0, .slice none 0 0, .slice none 0 0, .int .i64 0] 82)) kb)
    have HQ := Lib.hid hq
    clear hq kb
    go_enter Tryz.func23, Tryz.ntmps23
    go_wp2_with fail
    refine cs.mono ?_
    rintro e w2 ⟨rfl, rfl⟩
    clear cs
    go_wp2
    go_ret2
    refine ⟨HB.out.1, .inr ⟨z, rfl, ?_⟩⟩
    rw [HQ.out]
    exact ⟨HB.out.2, rfl, Strm.nil _ _, World.ownsRow_nil _ _ _ _, fun b e => by cases e⟩
theorem zsec_small : Small zsec := replicate_small 128
theorem zsec_length : zsec.length = 128 := List.length_replicate
theorem makeN_next (D : DevP) (p : Nat) (want : List (List Nat)) (i : Nat) : makeN D p want (i + 1) = (if ((makeN D p want i).1.read 0 ((p + i : Nat) : Int)).1 = wantAt want i then makeN D p want i else (((makeN D p want i).1.write 0 ((p + i : Nat) : Int) (wantAt want i)).2, true)) := rfl
set_option maxHeartbeats 8000000 in
theorem make_any {D : DevP} {w : World} {F : Nat → Prop} {pd : Value} (h : IsDev D w F pd) (hF : ∀ b, F b → b < w.heap.size) {N : Nat} (hG : D.good N) {gl : Nat} {lh : HeadP} {strips slot lasts : Nat} {sv st : Value}
    (kb : Blk w gl 82 (logV lh pd strips slot sv st lasts)) (hgl : ¬ F gl) (p n : Nat) (hp : p ≤ 100000) (hn : n ≤ 100000) (hN : N + n ≤ 100000) (A : Option Addr) (c : Nat) (Lw : List Value) (want : List (List Nat)) (hA : AtIn w (fun b => ¬ F b) A Lw) (hw : Outs w F Lw want) (hwl : want.length ≤ 100000) (h128 : ∀ l ∈ want, l.length = 128) :
    Calls Tryz.prog 29 #[.pointer (some ⟨gl, 0, none⟩), .int .i64 (p : Nat), .int .i64 (n : Nat), .slice A want.length c] w fun e w' => e = .returned (.tuple #[]) ∧ DevPost (makeP D p n want) F pd w w' := by
  obtain ⟨i0, hi0, hz0, hz1, hz2⟩ := info_parts u8_info
  obtain ⟨gp, s0, lv0, X0, rfl, -⟩ := id h
  obtain ⟨wl, hwn⟩ : ∃ wl, want.length = wl := ⟨_, rfl⟩
  have HWL := Lib.hid hwn
  rw [hwn]
  go_enter Tryz.func29, Tryz.ntmps29
  go_upto_region 2 with (at_make; refine wpList_make_full _ rfl _ _ 45 rfl w.heap.size 5 i0 _ 1 Tryz.underlying45 hi0 hz0 hz1 .i64 .i64 _ _ 128 rfl rfl rfl rfl (by rw [hz2]; omega) (by unfold maxLen; omega) (Nat.le_refl _) ?_; intro w1 hown1 hg1)
  have hb1 : Below w.heap.size w w1 := (Below.refl _ _).grown hg1 (Nat.le_refl _) (by simp)
  have hz : (madeCells (Value.int .u8 0).cells (128 * 1)).toList = zsec.map byteV := by
    unfold zsec
    rw [List.map_replicate]
    exact toList_madeCells_one _ 128
  rw [hz] at hown1
  have hbz : BytesIn w1 (fun b => ¬ F b) (some ⟨w.heap.size, 0, none⟩) zsec := out_own hown1 zsec_small hF
  have hd1 : IsDev D w1 F (.pointer (some ⟨gp, 0, none⟩)) := h.below hb1
  have hF1 : ∀ b, F b → b < w1.heap.size := fun b q => Nat.lt_of_lt_of_le (hF b q) hb1.size
  have k1 := kb.below hb1 kb.lt
  have hgl1 := k1.lt
  have HB1 := Lib.hid hb1
  have HA := Lib.hid hA
  have HW := Lib.hid hw
  have H128 := Lib.hid h128
  have HBZ := Lib.hid hbz
  have HF1 := Lib.hid hF1
  clear hown1 hg1 hbz h hb1 hA hw hF hwn h128 kb hF1 hz
  go_wp2_with fail
  go_loopw [16, 8] (fun iv bv wr => ∃ (k : Nat), k ≤ n ∧ iv = .int .i64 (k : Nat) ∧ bv = .bool (makeN D p want k).2 ∧ IsDev (makeN D p want k).1 wr (grow F w1 wr) (.pointer (some ⟨gp, 0, none⟩)) ∧ Only F w1 wr) (fun iv _ _ => n - (intOf iv).toNat)
  case atStart => exact ⟨0, Nat.zero_le _, rfl, rfl, hd1.mono fun b q => .inl q, Only.refl _ _⟩
  case round =>
    clear hd1
    obtain ⟨k, hk, rfl, rfl, hd, hO⟩ := hrel
    have hFr : ∀ b, grow F w1 wr b → b < wr.heap.size := fun b q => q.elim (fun z => Nat.lt_of_lt_of_le (HF1.out b z) hO.size) fun z => z.2
    have hgood := makeN_good hG p want k
    have kr := k1.only hO hgl
    have c4 : wr.cell? ⟨gl, 4, none⟩ = some (.pointer (some ⟨gp, 0, none⟩)) := kr.cell 4
    have hnx := makeN_next D p want k
    generalize hs : makeN D p want k = s at *
    obtain ⟨Dk, bk⟩ := s
    simp only at hd hgood hnx
    rcases Nat.lt_or_ge k n with hlt | hge
    · have e1 : decide ((k : Int) < (n : Int)) = true := by rw [decide_eq_true_iff]; omega
      obtain ⟨q, hq⟩ : ∃ q, p + k = q := ⟨_, rfl⟩
      have v1 : IntKind.i64.wrap ((p : Int) + (k : Int)) = (q : Int) := by rw [IntKind.wrap_i64]; omega
      have hrd := read_any hd hgood (by omega) 0 (by omega) (q : Int)
      rw [hq] at hnx
      obtain ⟨lr, hlr⟩ : ∃ lr, (Dk.read 0 (q : Int)).1 = lr := ⟨_, rfl⟩
      rw [hlr] at hrd hnx
      have hwr := hO.size
      have TXT : Hid (∀ (W : World) (Aq : Option Addr) (lb : List Nat), Below wr.heap.size wr W → BytesIn w1 (fun b => ¬ F b) Aq lb → BytesIn W (fun b => ¬ grow F w1 wr b) Aq lb) := Lib.hid fun W Aq lb hW hb => out_below (out_post hb hO) hW
      have FIN : Hid (∀ W w2, Below wr.heap.size wr w2 → DevPost (Dk.write 0 (q : Int) (wantAt want k)).2 (grow F w1 wr) (.pointer (some ⟨gp, 0, none⟩)) w2 W → ¬ lr = wantAt want k → IsDev (makeN D p want (k + 1)).1 W (grow F w1 W) (.pointer (some ⟨gp, 0, none⟩)) ∧ (makeN D p want (k + 1)).2 = true ∧ Only F w1 W) := Lib.hid fun W w2 hb2 hp hne => by
        rw [hnx, if_neg hne]
        have hw2 := hb2.size
        refine ⟨hp.1.mono fun b z => ?_, rfl, hO.trans ((Only.of_below hb2 (grow F w1 wr)).trans hp.2 fun b z => .inl z) fun b z => z.imp id fun y => y.1⟩
        rcases z with (z | z) | z
        · exact .inl z
        · exact .inr ⟨z.1, Nat.lt_of_lt_of_le z.2 (Nat.le_trans hw2 hp.2.size)⟩
        · exact .inr ⟨by omega, z.2⟩
      have FIN2 : Hid (∀ W, Below wr.heap.size wr W → lr = wantAt want k → IsDev (makeN D p want (k + 1)).1 W (grow F w1 W) (.pointer (some ⟨gp, 0, none⟩)) ∧ (makeN D p want (k + 1)).2 = bk ∧ Only F w1 W) := Lib.hid fun W hW he => by
        rw [hnx, if_pos he]
        exact ⟨(hd.below hW).mono fun b z => z.imp id fun y => ⟨y.1, Nat.lt_of_lt_of_le y.2 hW.size⟩, rfl, hO.trans (Only.of_below hW (fun _ => False)) fun b z => z.elim⟩
      by_cases hkw : k < wl
      · have e2 : decide ((k : Int) < (wl : Int)) = true := by rw [decide_eq_true_iff]; omega
        have e3 : (0 : Int) ≤ (k : Int) := by omega
        have e4 : (k : Int) < (wl : Int) := by omega
        have hkl : k < want.length := by rw [HWL.out]; exact hkw
        obtain ⟨u, hu, hT⟩ := HW.out.2 k _ (List.getElem?_eq_getElem hkl)
        obtain ⟨Ab, cb, rfl, hcb, hTb0⟩ := hT.bytes
        obtain ⟨b, o, rfl, hFb, hbw, hc⟩ := HA.out k (by rw [HW.out.1]; exact hkl)
        have hLk : Lw[k]'(by rw [HW.out.1]; exact hkl) = .slice Ab want[k].length cb := by
          rw [List.getElem?_eq_getElem (by rw [HW.out.1]; exact hkl)] at hu
          exact Option.some.inj hu
        have hl128 : want[k].length = 128 := H128.out _ (List.getElem_mem hkl)
        have hlbw : want[k] = wantAt want k := by unfold wantAt; rw [List.getElem?_eq_getElem hkl]; rfl
        rw [hLk] at hc
        have hcr : wr.cell? ⟨b, o + k, none⟩ = some (.slice Ab want[k].length cb) := (hO.cell (p := ⟨b, o + k, none⟩) (Nat.lt_of_lt_of_le hbw HB1.out.size) hFb).trans ((HB1.out.cell (p := ⟨b, o + k, none⟩) hbw).trans hc)
        have hTb : BytesIn w1 (fun b => ¬ F b) Ab want[k] := out_below hTb0 HB1.out
        generalize want[k] = lb at *
        rw [hl128] at hcr
        clear hLk hu hT hTb0 hc hcb hs hq hk hgl1 hkl
        go_wp2_with fail
        refine hrd.mono ?_
        rintro e w2 ⟨A2, c2, rfl, ho2, hb2, hs2⟩
        have hlb2 := TXT.out w2 Ab lb hb2 hTb
        have heq := equal_any A2 Ab c2 cb lr lb w2.heap.size w2 (own_bytes ho2 hs2) hlb2.bytes
        rw [hl128] at heq
        have k2 := kr.below hb2 kr.lt
        have c4 : w2.cell? ⟨gl, 4, none⟩ = some (.pointer (some ⟨gp, 0, none⟩)) := k2.cell 4
        have hF2 : ∀ b, grow F w1 wr b → b < w2.heap.size := fun b z => Nat.lt_of_lt_of_le (hFr b z) hb2.size
        have hwt := write_any (hd.below hb2) hF2 hgood (by omega) 0 (by omega) (q : Int) Ab cb lb hlb2
        rw [hl128] at hwt
        have F1 : Hid (∀ W, DevPost (Dk.write 0 (q : Int) lb).2 (grow F w1 wr) (.pointer (some ⟨gp, 0, none⟩)) w2 W → ¬ lr = lb → IsDev (makeN D p want (k + 1)).1 W (grow F w1 W) (.pointer (some ⟨gp, 0, none⟩)) ∧ (makeN D p want (k + 1)).2 = true ∧ Only F w1 W) := Lib.hid fun W hp hne => by
          rw [hlbw] at hp hne
          exact FIN.out W w2 hb2 hp hne
        have F2 : Hid (lr = lb → IsDev (makeN D p want (k + 1)).1 w2 (grow F w1 w2) (.pointer (some ⟨gp, 0, none⟩)) ∧ (makeN D p want (k + 1)).2 = bk ∧ Only F w1 w2) := Lib.hid fun he => FIN2.out w2 hb2 (by rw [← hlbw]; exact he)
        clear hrd ho2 hs2 hlb2 TXT hTb hd hO hFr hgood k2 kr hF2 hl128 hlbw FIN FIN2 hnx hlr
        go_wp2_with fail
        refine heq.mono ?_
        rintro e w3 ⟨rfl, rfl⟩
        clear heq
        by_cases he : lr = lb
        · rw [decide_eq_true he]
          have H := Lib.hid (F2.out he)
          clear F1 F2 he hwt
          go_wp2
          go_roundw
          case rel => exact ⟨k + 1, by omega, by go_num, by rw [H.out.2.1], H.out.1, H.out.2.2⟩
          case measure => simp [intOf]; omega
        · rw [decide_eq_false he]
          have H := Lib.hid fun W hp => F1.out W hp he
          clear F1 F2 he
          go_wp2_with fail
          refine hwt.mono ?_
          rintro e w4 ⟨rfl, hp⟩
          have H4 := Lib.hid (H.out w4 hp)
          clear hp H hwt
          go_wp2
          go_roundw
          case rel => exact ⟨k + 1, by omega, by go_num, by rw [H4.out.2.1], H4.out.1, H4.out.2.2⟩
          case measure => simp [intOf]; omega
      · have e2 : decide ((k : Int) < (wl : Int)) = false := by rw [decide_eq_false_iff_not]; omega
        have hTb : BytesIn w1 (fun b => ¬ F b) (some ⟨w.heap.size, 0, none⟩) zsec := HBZ.out
        have hl128 : zsec.length = 128 := zsec_length
        have hlbw : zsec = wantAt want k := by unfold wantAt; rw [List.getElem?_eq_none (by rw [HWL.out]; omega)]; rfl
        obtain ⟨Ab, hAb⟩ : ∃ Ab, some (⟨w.heap.size, 0, none⟩ : Addr) = Ab := ⟨_, rfl⟩
        obtain ⟨cb, hcb⟩ : ∃ cb, 128 = cb := ⟨_, rfl⟩
        rw [hAb] at hTb
        subst hAb
        subst hcb
        generalize zsec = lb at *
        clear hs hq hk hgl1
        go_wp2_with fail
        refine hrd.mono ?_
        rintro e w2 ⟨A2, c2, rfl, ho2, hb2, hs2⟩
        have hlb2 := TXT.out w2 _ lb hb2 hTb
        have heq := equal_any A2 (some ⟨w.heap.size, 0, none⟩) c2 128 lr lb w2.heap.size w2 (own_bytes ho2 hs2) hlb2.bytes
        rw [hl128] at heq
        have k2 := kr.below hb2 kr.lt
        have c4 : w2.cell? ⟨gl, 4, none⟩ = some (.pointer (some ⟨gp, 0, none⟩)) := k2.cell 4
        have hF2 : ∀ b, grow F w1 wr b → b < w2.heap.size := fun b z => Nat.lt_of_lt_of_le (hFr b z) hb2.size
        have hwt := write_any (hd.below hb2) hF2 hgood (by omega) 0 (by omega) (q : Int) (some ⟨w.heap.size, 0, none⟩) 128 lb hlb2
        rw [hl128] at hwt
        have F1 : Hid (∀ W, DevPost (Dk.write 0 (q : Int) lb).2 (grow F w1 wr) (.pointer (some ⟨gp, 0, none⟩)) w2 W → ¬ lr = lb → IsDev (makeN D p want (k + 1)).1 W (grow F w1 W) (.pointer (some ⟨gp, 0, none⟩)) ∧ (makeN D p want (k + 1)).2 = true ∧ Only F w1 W) := Lib.hid fun W hp hne => by
          rw [hlbw] at hp hne
          exact FIN.out W w2 hb2 hp hne
        have F2 : Hid (lr = lb → IsDev (makeN D p want (k + 1)).1 w2 (grow F w1 w2) (.pointer (some ⟨gp, 0, none⟩)) ∧ (makeN D p want (k + 1)).2 = bk ∧ Only F w1 w2) := Lib.hid fun he => FIN2.out w2 hb2 (by rw [← hlbw]; exact he)
        clear hrd ho2 hs2 hlb2 TXT hTb hd hO hFr hgood k2 kr hF2 hl128 hlbw FIN FIN2 hnx hlr
        go_wp2_with fail
        refine heq.mono ?_
        rintro e w3 ⟨rfl, rfl⟩
        clear heq
        by_cases he : lr = lb
        · rw [decide_eq_true he]
          have H := Lib.hid (F2.out he)
          clear F1 F2 he hwt
          go_wp2
          go_roundw
          case rel => exact ⟨k + 1, by omega, by go_num, by rw [H.out.2.1], H.out.1, H.out.2.2⟩
          case measure => simp [intOf]; omega
        · rw [decide_eq_false he]
          have H := Lib.hid fun W hp => F1.out W hp he
          clear F1 F2 he
          go_wp2_with fail
          refine hwt.mono ?_
          rintro e w4 ⟨rfl, hp⟩
          have H4 := Lib.hid (H.out w4 hp)
          clear hp H hwt
          go_wp2
          go_roundw
          case rel => exact ⟨k + 1, by omega, by go_num, by rw [H4.out.2.1], H4.out.1, H4.out.2.2⟩
          case measure => simp [intOf]; omega
    · obtain rfl : k = n := by omega
      have e1 : decide ((k : Int) < (k : Int)) = false := by rw [decide_eq_false_iff_not]; omega
      have hmk : makeP D p k want = if bk = true then Dk.sync 0 else Dk := by unfold makeP; rw [hs]
      have OUT : Hid (∀ W, DevPost (makeP D p k want) (grow F w1 wr) (.pointer (some ⟨gp, 0, none⟩)) wr W → DevPost (makeP D p k want) F (.pointer (some ⟨gp, 0, none⟩)) w W) := Lib.hid fun W hp => by
        refine ⟨hp.1.mono fun b z => ?_, ((Only.of_below HB1.out F).trans hO fun b z => .inl z).trans hp.2 fun b z => z.imp id fun y => Nat.le_trans HB1.out.size y.1⟩
        have := HB1.out.size
        have h3 := hO.size
        have h4 := hp.2.size
        rcases z with (z | z) | z
        · exact .inl z
        · exact .inr ⟨by omega, by omega⟩
        · exact .inr ⟨by omega, by omega⟩
      have c4 : wr.cell? ⟨gl, 4, none⟩ = some (.pointer (some ⟨gp, 0, none⟩)) := kr.cell 4
      cases bk with
      | true =>
        rw [if_pos rfl] at hmk
        have hsy := sync_any hd hFr hgood (by omega) 0 (by omega)
        rw [← hmk] at hsy
        clear hd hO hFr hgood kr k1 hs hmk hnx hgl1
        go_wp2_with fail
        refine hsy.mono ?_
        rintro e w2 ⟨rfl, hp⟩
        have H := Lib.hid (OUT.out w2 hp)
        clear hp OUT hsy
        go_wp2
        go_end0
        exact ⟨rfl, H.out⟩
      | false =>
        rw [if_neg (by simp)] at hmk
        have H := Lib.hid (OUT.out wr (by rw [hmk]; exact DevPost.refl hd))
        clear hd hO hFr hgood kr k1 hs hmk hnx hgl1 OUT
        go_wp2
        go_end0
        exact ⟨rfl, H.out⟩
set_option maxHeartbeats 8000000 in
theorem say_any {L : LogP} {D : DevP} {w : World} {F G : Nat → Prop} {gl : Nat} {pd sv st : Value} (h : Lg L D w F G gl pd sv st) (hf : L.h.Fits) (hsl : L.slot ≤ 1) {N : Nat} (hG : D.good N) (hN : N + 1 ≤ 100000) :
    Calls Tryz.prog 66 #[.pointer (some ⟨gl, 0, none⟩)] w fun e w' => e = .returned (.tuple #[]) ∧ LgPost (sayL L) (sayD L D) F G gl pd w w' := by
  obtain ⟨⟨stamp, base, check, area⟩, strips, slot, stream, starts, lasts⟩ := L
  obtain ⟨gp, s0, lv0, X0, rfl, -⟩ := id h.dev
  obtain ⟨f0, f1, f2, f3⟩ := hf
  simp only at hsl f0 f1 f2 f3
  obtain ⟨st', hst⟩ : ∃ x, (stamp + 1) % 18446744073709551616 = x := ⟨_, rfl⟩
  obtain ⟨sl', hsl'⟩ : ∃ x, 1 - slot = x := ⟨_, rfl⟩
  have v1 : IntKind.u64.wrap ((stamp : Int) + 1) = (st' : Int) := by rw [IntKind.wrap_u64]; omega
  have v2 : IntKind.i64.wrap (1 - (slot : Int)) = (sl' : Int) := by rw [IntKind.wrap_i64]; omega
  have hfit : HeadP.Fits ⟨st', base, check, area⟩ := ⟨by show st' < _; omega, f1, f2, f3⟩
  have kb := h.log.blk
  have c0 : w.cell? ⟨gl, 0, none⟩ = some (.int .u64 (stamp : Nat)) := kb.cell 0
  have c6 : w.cell? ⟨gl, 6, none⟩ = some (.int .i64 (slot : Nat)) := kb.cell 6
  have z0 : w.frozen? ⟨gl, 0, none⟩ = false := kb.frozen 0
  have z6 : w.frozen? ⟨gl, 6, none⟩ = false := kb.frozen 6
  have kW : Blk ((w.setCell ⟨gl, 0, none⟩ (.int .u64 (st' : Nat))).setCell ⟨gl, 6, none⟩ (.int .i64 (sl' : Nat))) gl 82 (logV ⟨st', base, check, area⟩ (.pointer (some ⟨gp, 0, none⟩)) strips sl' sv st lasts) := (kb.set_ 0 _).set_ 6 _
  have oW : Only (fun b => b = gl) w ((w.setCell ⟨gl, 0, none⟩ (.int .u64 (st' : Nat))).setCell ⟨gl, 6, none⟩ (.int .i64 (sl' : Nat))) := ((Only.refl (fun b => b = gl) w).setCell (p := ⟨gl, 0, none⟩) (.inl rfl) _).setCell (p := ⟨gl, 6, none⟩) (.inl rfl) _
  have hL : sayL ⟨⟨stamp, base, check, area⟩, strips, slot, stream, starts, lasts⟩ = ⟨⟨st', base, check, area⟩, strips, sl', stream, starts, lasts⟩ := by unfold sayL; simp only [hst, hsl']
  have hD : sayD ⟨⟨stamp, base, check, area⟩, strips, slot, stream, starts, lasts⟩ D = ((D.write 0 (sl' : Int) (hsec ⟨st', base, check, area⟩)).2).sync 0 := by unfold sayD; rw [hL]
  have hB : LgPost ⟨⟨st', base, check, area⟩, strips, sl', stream, starts, lasts⟩ D F G gl (.pointer (some ⟨gp, 0, none⟩)) w _ := LgPost.box h oW kW rfl rfl
  have hLW := h.box (L' := ⟨⟨st', base, check, area⟩, strips, sl', stream, starts, lasts⟩) oW kW rfl rfl
  have hgG : G gl := h.log.inG
  have hoG : Only (fun b => F b ∨ G b) w _ := oW.mono (S' := fun b => F b ∨ G b) fun b e => .inl (.inr (by rw [e]; exact hgG))
  rw [hL, hD]
  have CS : Hid (∀ W, Calls Tryz.prog 106 #[.agg #[.int .u64 (st' : Nat), .int .u64 (base : Nat), .int .u64 (check : Nat), .int .i64 (area : Nat)]] W (RetBytes 5 (hsec ⟨st', base, check, area⟩) W)) := Lib.hid fun W => sector_any ⟨st', base, check, area⟩ hfit W
  have HS := Lib.hid (hsec_small hfit)
  generalize hsec ⟨st', base, check, area⟩ = lh at *
  have HLW := Lib.hid hLW
  have HKW := Lib.hid kW
  have HOG := Lib.hid hoG
  clear hL hD hB hLW h kb kW oW hst hsl' hsl f0 f1 f2 f3 hoG hfit
  go_enter Tryz.func66, Tryz.ntmps66
  go_upto_region 2 with fail
  generalize World.setCell _ _ _ = W at *
  have hg : gl < W.heap.size := HKW.out.lt
  have hFW : ∀ b, F b → b < W.heap.size := HLW.out.hiF
  have nF : ¬ F gl := fun q => HLW.out.dis gl q hgG
  have CELLS : Hid (∀ W', Only F W W' → W'.cell? ⟨gl, 0, none⟩ = some (.int .u64 (st' : Nat)) ∧ W'.cell? ⟨gl, 1, none⟩ = some (.int .u64 (base : Nat)) ∧ W'.cell? ⟨gl, 2, none⟩ = some (.int .u64 (check : Nat)) ∧ W'.cell? ⟨gl, 3, none⟩ = some (.int .i64 (area : Nat)) ∧ W'.cell? ⟨gl, 4, none⟩ = some (.pointer (some ⟨gp, 0, none⟩)) ∧ W'.cell? ⟨gl, 6, none⟩ = some (.int .i64 (sl' : Nat))) := Lib.hid fun W' ho => by
    have k := HKW.out.only ho nF
    exact ⟨k.cell 0, k.cell 1, k.cell 2, k.cell 3, k.cell 4, k.cell 6⟩
  have cs := CS.out W.drew
  have bd := below_drew0 W
  have x0 := CELLS.out W.drew (Only.of_below bd F)
  have WR : Hid (∀ W' A c, Below W.heap.size W W' → BytesIn W' (fun b => ¬ F b) A lh → Calls Tryz.prog 79 #[.pointer (some ⟨gp, 0, none⟩), .int .u8 0, .int .i64 (sl' : Int), .slice A lh.length c] W' fun e w' => e = .returned (.int .u16 ((D.write 0 (sl' : Int) lh).1 : Nat)) ∧ DevPost (D.write 0 (sl' : Int) lh).2 F (.pointer (some ⟨gp, 0, none⟩)) W' w') := Lib.hid fun W' A c hb hx =>
    write_any (HLW.out.dev.below hb) (fun b q => Nat.lt_of_lt_of_le (hFW b q) hb.size) hG (by omega) 0 (by omega) (sl' : Int) A c _ hx
  have HG2 : Hid ((D.write 0 (sl' : Int) lh).2.good (N + 1)) := Lib.hid (hG.write 0 _ _)
  clear hG
  go_cut [] (fun wx => ∃ w3, Below W.heap.size W w3 ∧ DevPost (D.write 0 (sl' : Int) lh).2 F (.pointer (some ⟨gp, 0, none⟩)) w3 wx)
  case first =>
    go_wp2_with fail
    go_region_held3 (fun W' => W'.cell? ⟨gl, 0, none⟩ = some (.int .u64 (st' : Nat)) ∧ W'.cell? ⟨gl, 1, none⟩ = some (.int .u64 (base : Nat)) ∧ W'.cell? ⟨gl, 2, none⟩ = some (.int .u64 (check : Nat)) ∧ W'.cell? ⟨gl, 3, none⟩ = some (.int .i64 (area : Nat)) ∧ W'.cell? ⟨gl, 4, none⟩ = some (.pointer (some ⟨gp, 0, none⟩)) ∧ W'.cell? ⟨gl, 6, none⟩ = some (.int .i64 (sl' : Nat)))
      (first | with_reducible (exact x0) | with_reducible (exact x1) | with_reducible (exact x2) | fail)
      (first
        | ((with_reducible refine cs.mono ?_); rintro e w3 ⟨A3, c3, rfl, ho3, hb3, hs3⟩; have hB3 := bd.trans (hb3.mono bd.size); have x1 := CELLS.out w3 (Only.of_below hB3 F); have cw := WR.out w3 A3 c3 hB3 (out_own ho3 HS.out hFW))
        | ((with_reducible refine cw.mono ?_); rintro e w4 ⟨rfl, hp4⟩; have x2 := CELLS.out w4 ((Only.of_below hB3 F).trans hp4.2 fun b q => .inl q); have H4 := Lib.hid hp4)
        | fail)
    all_goals
      go_wp2
      go_meet
      case rel => exact ⟨w3, hB3, H4.out⟩
  case rest =>
    rename World => wx
    obtain ⟨w3, hb3, hp⟩ := hcut
    have hL3 := (HLW.out.below hb3).devPost hp
    have c4 : wx.cell? ⟨gl, 4, none⟩ = some (.pointer (some ⟨gp, 0, none⟩)) := hL3.log.blk.cell 4
    have hsy := sync_any hL3.dev hL3.hiF HG2.out (by omega) 0 (by omega)
    have FIN : Hid (∀ W', DevPost (((D.write 0 (sl' : Int) lh).2).sync 0) (grow F w3 wx) (.pointer (some ⟨gp, 0, none⟩)) wx W' → LgPost ⟨⟨st', base, check, area⟩, strips, sl', stream, starts, lasts⟩ (((D.write 0 (sl' : Int) lh).2).sync 0) F G gl (.pointer (some ⟨gp, 0, none⟩)) w W') := Lib.hid fun W' hq => by
      refine LgPost.trans (F' := F) (G' := G) (fun b q => .inl q) (fun b q => .inl q) HOG.out ?_
      refine LgPost.lead hb3 ?_
      refine LgPost.trans (F' := grow F w3 wx) (G' := G) (fun b q => q) (fun b q => .inl q) (hp.2.mono fun b q => .inl (.inl q)) ?_
      exact LgPost.dev hL3 hq
    clear hL3 hp hb3 x0 bd cs hFW
    go_wp2_with fail
    refine hsy.mono ?_
    rintro e w5 ⟨rfl, hq⟩
    have H := Lib.hid (FIN.out w5 hq)
    clear hq FIN hsy
    go_wp2
    go_end0
    exact ⟨rfl, H.out⟩
theorem bel_drewN {B : Nat} {a w : World} (h : Below B a w) (n : Nat) : Below B a (w.drewN n) := ⟨h.os, h.tape, h.output, h.size, h.block⟩
def findK (D : DevP) : Nat → HeadP × Nat
  | 0 => (⟨0, 0, 0, 0⟩, 0)
  | k + 1 => findStep D k (findK D k)
theorem findK_two (D : DevP) : findK D 2 = findP D := rfl
theorem DevP.read_in {D : DevP} {k : Nat} (hk : k < (D.f 0).length) : D.read 0 (k : Int) = ((D.sect 0 k).newest, 0) := by
  unfold DevP.read
  rw [if_pos ⟨by omega, by omega, by omega⟩, Int.toNat_natCast]
theorem DevP.newest_len {D : DevP} {N : Nat} (h : D.good N) {k : Nat} (hk : k < (D.f 0).length) : (D.sect 0 k).newest.length = 128 := by
  obtain ⟨h1, -, h3⟩ := h.at_ (n := 0) (by omega) hk
  rw [DevP.sect_eq hk]
  exact newest_128 h1 h3
theorem store_head_log {w : World} {gl : Nat} {cs : Array Value} (k : Blk w gl 82 cs) (hs : cs.size = 10) (x : HeadP) : (Instr.storeAt 79 (.pointer (some ⟨gl, 0, none⟩)) (.agg (headV x))).run Tryz.prog w = .ok () (w.setCells gl 0 (headV x).toList) :=
  run_storeAt_mid w gl 0 79 (headV x) (fun j hj => ⟨by rw [k.cell, Array.getElem?_eq_getElem (by rw [hs]; have : (headV x).size = 4 := rfl; omega)]; rfl, k.frozen _⟩) size_head (by simp [headV, Value.oneCell'])
set_option maxHeartbeats 8000000 in
theorem find_any {strips : Nat} {D : DevP} {w : World} {F G : Nat → Prop} {gl : Nat} {pd sv st : Value} (h : Lg (logZ strips) D w F G gl pd sv st) {N : Nat} (hG : D.good N) (hN : N ≤ 100000) (h2 : 2 ≤ (D.f 0).length) :
    Calls Tryz.prog 24 #[.pointer (some ⟨gl, 0, none⟩)] w fun e w' => e = .returned (.bool (decide (0 < (findP D).1.stamp))) ∧ Lg ⟨(findP D).1, strips, (findP D).2, [], [], 0⟩ D w' F G gl pd sv st ∧ Only (fun b => b = gl) w w' := by
  obtain ⟨gp, s0, lv0, X0, rfl, -⟩ := id h.dev
  obtain ⟨⟨hz, slz⟩, hfp⟩ : ∃ fp, findP D = fp := ⟨_, rfl⟩
  rw [hfp]
  have HFP := Lib.hid hfp
  clear hfp
  go_enter Tryz.func24, Tryz.ntmps24
  go_wp2_with fail
  go_loopw [8] (fun iv wr => ∃ (k : Nat), k ≤ 2 ∧ iv = .int .i64 (k : Nat) ∧ Lg ⟨(findK D k).1, strips, (findK D k).2, [], [], 0⟩ D wr F G gl (.pointer (some ⟨gp, 0, none⟩)) sv st ∧ Only (fun b => b = gl) w wr) (fun iv _ => 2 - (intOf iv).toNat)
  case atStart => exact ⟨0, by omega, rfl, h, Only.refl _ _⟩
  case round =>
    clear h
    obtain ⟨k, hk, rfl, hd, hO⟩ := hrel
    rcases Nat.lt_or_ge k 2 with hlt | hge
    · have e1 : decide ((k : Int) < 2) = true := by rw [decide_eq_true_iff]; omega
      have hkl : k < (D.f 0).length := by omega
      have hrd := read_any hd.dev hG hN 0 (by omega) (k : Int)
      have hln := DevP.newest_len hG hkl
      have hstep : findK D (k + 1) = findStep D k (findK D k) := rfl
      unfold findStep at hstep
      rw [DevP.read_in hkl] at hrd hstep
      simp only at hrd hstep
      generalize (D.sect 0 k).newest = lr at *
      generalize hs : findK D k = s at *
      obtain ⟨hh, sl⟩ := s
      simp only at hd hstep
      have kb := hd.log.blk
      have c4 : wr.cell? ⟨gl, 4, none⟩ = some (.pointer (some ⟨gp, 0, none⟩)) := kb.cell 4
      have NXT : Hid (∀ W, Below wr.heap.size wr W → ¬ (isHead lr = true ∧ hh.stamp < (wheadP lr).stamp) → Lg ⟨(findK D (k + 1)).1, strips, (findK D (k + 1)).2, [], [], 0⟩ D W F G gl (.pointer (some ⟨gp, 0, none⟩)) sv st ∧ Only (fun b => b = gl) w W) := Lib.hid fun W hW hn => by
        rw [hstep, if_neg hn]
        exact ⟨hd.below hW, hO.trans (Only.of_below hW (fun _ => False)) fun b z => z.elim⟩
      have hw2 := hO.size
      have NXT2 : Hid (∀ W, Below wr.heap.size wr W → (isHead lr = true ∧ hh.stamp < (wheadP lr).stamp) → Blk W gl 82 (logV hh (.pointer (some ⟨gp, 0, none⟩)) strips sl sv st 0) ∧ (Instr.storeAt 79 (.pointer (some ⟨gl, 0, none⟩)) (.agg (headV (wheadP lr)))).run Tryz.prog W = .ok () (W.setCells gl 0 (headV (wheadP lr)).toList) ∧
          (W.setCells gl 0 (headV (wheadP lr)).toList).cell? ⟨gl, 6, none⟩ = some (.int .i64 (sl : Nat)) ∧ (W.setCells gl 0 (headV (wheadP lr)).toList).frozen? ⟨gl, 6, none⟩ = false ∧
          Lg ⟨(findK D (k + 1)).1, strips, (findK D (k + 1)).2, [], [], 0⟩ D ((W.setCells gl 0 (headV (wheadP lr)).toList).setCell ⟨gl, 6, none⟩ (.int .i64 (k : Nat))) F G gl (.pointer (some ⟨gp, 0, none⟩)) sv st ∧ Only (fun b => b = gl) w ((W.setCells gl 0 (headV (wheadP lr)).toList).setCell ⟨gl, 6, none⟩ (.int .i64 (k : Nat)))) := Lib.hid fun W hW hy => by
        have hd2 := hd.below hW
        have k2 := hd2.log.blk
        have k3 : Blk (W.setCells gl 0 (headV (wheadP lr)).toList) gl 82 (logV (wheadP lr) (.pointer (some ⟨gp, 0, none⟩)) strips sl sv st 0) := (((k2.set_ 0 _).set_ 1 _).set_ 2 _).set_ 3 _
        have o3 := setCells_only W gl (headV (wheadP lr)).toList 0
        have o4 : Only (fun b => b = gl) W ((W.setCells gl 0 (headV (wheadP lr)).toList).setCell ⟨gl, 6, none⟩ (.int .i64 (k : Nat))) := o3.setCell (p := ⟨gl, 6, none⟩) (.inl rfl) _
        have k4 : Blk ((W.setCells gl 0 (headV (wheadP lr)).toList).setCell ⟨gl, 6, none⟩ (.int .i64 (k : Nat))) gl 82 (logV (wheadP lr) (.pointer (some ⟨gp, 0, none⟩)) strips k sv st 0) := k3.set_ 6 _
        rw [hstep, if_pos hy]
        exact ⟨k2, store_head_log k2 rfl _, k3.cell 6, k3.frozen 6, hd2.box (L' := ⟨wheadP lr, strips, k, [], [], 0⟩) o4 k4 rfl rfl, (hO.trans (Only.of_below hW (fun _ => False)) fun b z => z.elim).trans o4 fun b z => .inl z⟩
      have HLN := Lib.hid hln
      clear hs hstep hd hO hln
      go_wp2_with fail
      refine hrd.mono ?_
      rintro e w2 ⟨A2, c2, rfl, ho2, hb2, hs2⟩
      rw [HLN.out] at ho2 ⊢
      have hhd := heads_any A2 c2 lr w2.heap.size w2 (own_bytes ho2 hs2) (Nat.le_refl _) HLN.out (own_cap ho2)
      have NX := Lib.hid fun W (hW : Below w2.heap.size w2 W) => NXT.out W (hb2.trans (hW.mono hb2.size))
      have NX2 := Lib.hid fun W (hW : Below w2.heap.size w2 W) => NXT2.out W (hb2.trans (hW.mono hb2.size))
      have KB : Hid (∀ W, Below w2.heap.size w2 W → Blk W gl 82 (logV hh (.pointer (some ⟨gp, 0, none⟩)) strips sl sv st 0)) := Lib.hid fun W hW => (kb.below hb2 kb.lt).below hW (Nat.lt_of_lt_of_le kb.lt hb2.size)
      clear hrd ho2 hs2 NXT NXT2 kb
      go_wp2_with fail
      refine hhd.mono ?_
      rintro e w3 ⟨rfl, hb3⟩
      have hst := store_head_new w3 (wheadP lr)
      have kx := Blk.new w3 79 (headV (wheadP lr))
      have hb4 : Below w2.heap.size w2 (w3.alloc (.cells (headV (wheadP lr)) 79)) := hb3.alloc hb3.size _
      go_upto_region 6 with (refine wpList_store_run rfl 79 (.tmp 6) (.tmp 23) _ _ rfl rfl rfl hst ?_; clear hst)
      obtain ⟨hp, hhp⟩ : ∃ hp, wheadP lr = hp := ⟨_, rfl⟩
      rw [hhp] at kx hb4 NX NX2
      rw [hhp]
      obtain ⟨ps, pb, pc, pa⟩ := hp
      have kl := KB.out _ hb4
      have hgx := kx.lt
      have hne : w3.heap.size ≠ gl := by
        have := (KB.out w2 (Below.refl _ _)).lt
        have := hb3.size
        omega
      generalize World.alloc w3 _ = w4 at *
      have c0 : w4.cell? ⟨gl, 0, none⟩ = some (.int .u64 (hh.stamp : Nat)) := kl.cell 0
      have x0 : w4.cell? ⟨w3.heap.size, 0, none⟩ = some (.int .u64 (ps : Nat)) := kx.cell 0
      clear KB kl
      cases hih : isHead lr with
      | false =>
        have H := Lib.hid fun n => NX.out _ (bel_drewN hb4 n) (by rw [hih]; simp)
        clear NX NX2 hb4 kx hb3 hih
        go_upto_region 6 with fail
        go_quiet (fail)
        go_wp2
        go_roundw
        case rel => exact ⟨k + 1, by omega, by go_num, (H.out _).1, (H.out _).2⟩
        case measure => simp [intOf]; omega
      | true =>
        obtain ⟨hs, hhs⟩ : ∃ x, hh.stamp = x := ⟨_, rfl⟩
        rw [hih, hhs] at NX NX2
        rw [hhs] at c0
        by_cases hlt2 : hs < ps
        · have t1 : decide ((hs : Int) < (ps : Int)) = true := by rw [decide_eq_true_iff]; omega
          have H := Lib.hid fun n => NX2.out _ (bel_drewN hb4 n) ⟨rfl, hlt2⟩
          have KX := Lib.hid fun n => Blk.drewN kx n
          clear NX NX2 hb4 hb3 hih hhs kx
          go_upto_region 6 with fail
          go_quiet (fail)
          rename Nat => nq
          have ld := load_head (KX.out nq)
          obtain ⟨-, st_, c6, z6, hl, ho⟩ := H.out nq
          have FIN := Lib.hid (And.intro hl ho)
          clear H KX hl ho
          generalize World.drewN w4 nq = w5 at *
          go_wp2_with (first
            | (refine wpList_load_run rfl 79 (.tmp 6) _ _ rfl rfl ld ?_; clear ld)
            | (refine wpList_store_run rfl 79 (.tmp 41) (.tmp 38) _ _ rfl rfl rfl st_ ?_; clear st_)
            | fail)
          go_roundw
          case rel => exact ⟨k + 1, by omega, by go_num, FIN.out.1, FIN.out.2⟩
          case measure => simp [intOf]; omega
        · have t1 : decide ((hs : Int) < (ps : Int)) = false := by rw [decide_eq_false_iff_not]; omega
          have H := Lib.hid fun n => NX.out _ (bel_drewN hb4 n) (fun q => hlt2 q.2)
          clear NX NX2 hb4 kx hb3 hih hhs
          go_upto_region 6 with fail
          go_quiet (fail)
          go_wp2
          go_roundw
          case rel => exact ⟨k + 1, by omega, by go_num, (H.out _).1, (H.out _).2⟩
          case measure => simp [intOf]; omega
    · obtain rfl : k = 2 := by omega
      have e1 : decide (((2 : Nat) : Int) < 2) = false := rfl
      rw [findK_two, HFP.out] at hd
      have c0 : wr.cell? ⟨gl, 0, none⟩ = some (.int .u64 (hz.stamp : Nat)) := hd.log.blk.cell 0
      have t0 : decide ((0 : Int) < (hz.stamp : Int)) = decide (0 < hz.stamp) := by rw [Bool.eq_iff_iff, decide_eq_true_iff, decide_eq_true_iff]; omega
      have H := Lib.hid (And.intro hd hO)
      obtain ⟨q, hq⟩ : ∃ q, hz.stamp = q := ⟨_, rfl⟩
      rw [hq] at c0
      have Q := Lib.hid hq
      clear hd hO t0 hq
      go_wp2
      go_ret
      exact ⟨by rw [Q.out]; rfl, H.out⟩
def logN (strips : Nat) : LogP := ⟨⟨0, 1, 0, 0⟩, strips, 1, [], [], 0⟩
def newL (D : DevP) : LogP := sayL (logN ((D.size 0 - 2) / 2))
def newD (D : DevP) : DevP := sayD (logN ((D.size 0 - 2) / 2)) (makeP D 0 (D.size 0) [])
def NewLPost (D : DevP) (F : Nat → Prop) (pd : Value) (w : World) (e : Ending) (w' : World) : Prop :=
  (D.size 0 < 18 ∧ e = .returned (.tuple #[.pointer none, .int .u16 82]) ∧ Below w.heap.size w w') ∨
    (18 ≤ D.size 0 ∧ ∃ gl, e = .returned (.tuple #[.pointer (some ⟨gl, 0, none⟩), .int .u16 0]) ∧ LgPost (newL D) (newD D) F (fun _ => False) gl pd w w')
set_option maxHeartbeats 8000000 in
theorem newl_any {D : DevP} {w : World} {F : Nat → Prop} {pd : Value} (h : IsDev D w F pd) (hF : ∀ b, F b → b < w.heap.size) {N : Nat} (hG : D.good N) (hN : N + 5000 ≤ 100000) :
    Calls Tryz.prog 15 #[pd] w (NewLPost D F pd w) := by
  have hs : D.size 0 ≤ 4096 := by
    have := (hG 0 (by omega)).1
    unfold DevP.size
    exact this
  have con := on_any h hs
  obtain ⟨gp, s0, lv0, X0, rfl, -⟩ := id h
  go_enter Tryz.func15, Tryz.ntmps15
  go_wp2_with fail
  refine con.mono ?_
  rintro e w2 ⟨hb2, (⟨hlt, rfl⟩ | ⟨hge, rfl, hl⟩)⟩
  · have F1 : Hid (NewLPost D F (.pointer (some ⟨gp, 0, none⟩)) w (.returned (.tuple #[.pointer none, .int .u16 82])) w2) := Lib.hid (.inl ⟨hlt, rfl, hb2⟩)
    clear con hb2 hlt h hF hG hs
    go_wp2
    go_ret2
    exact F1.out
  · obtain ⟨gl, hgl⟩ : ∃ gl, w.heap.size = gl := ⟨_, rfl⟩
    rw [hgl] at hl
    rw [hgl]
    obtain ⟨n, hn⟩ : ∃ n, D.size 0 = n := ⟨_, rfl⟩
    rw [hn] at hl hs hge
    have hL2 : Lg (logZ ((n - 2) / 2)) D w2 F (fun b => b = gl) gl (.pointer (some ⟨gp, 0, none⟩)) (.slice none 0 0) (.slice none 0 0) := by
      refine ⟨h.below hb2, hl, fun b q e => by have := hF b q; omega, fun b q => Nat.lt_of_lt_of_le (hF b q) hb2.size, fun b e => by rw [e]; exact hl.blk.lt⟩
    have csz := sizes_any hL2.dev 0 (by omega)
    rw [hn] at csz
    have cmk := make_any hL2.dev hL2.hiF hG hL2.log.blk (fun q => hL2.dis gl q rfl) 0 n (by omega) (by omega) (by omega) none 0 [] [] (fun j hj => absurd hj (by simp)) (Outs.nil _ _) (by simp) (fun l hl => by cases hl)
    have FIN : Hid (∀ w5 w6 w7, DevPost (makeP D 0 n []) F (.pointer (some ⟨gp, 0, none⟩)) w2 w5 → Lg (logN ((n - 2) / 2)) (makeP D 0 n []) w6 (grow F w2 w5) (fun b => b = gl) gl (.pointer (some ⟨gp, 0, none⟩)) (.slice none 0 0) (.slice none 0 0) → Only (fun b => b = gl) w5 w6 →
        LgPost (sayL (logN ((n - 2) / 2))) (sayD (logN ((n - 2) / 2)) (makeP D 0 n [])) (grow F w2 w5) (fun b => b = gl) gl (.pointer (some ⟨gp, 0, none⟩)) w6 w7 → NewLPost D F (.pointer (some ⟨gp, 0, none⟩)) w (.returned (.tuple #[.pointer (some ⟨gl, 0, none⟩), .int .u16 0])) w7) := Lib.hid fun w5 w6 w7 h1 h2 h3 h4 => by
      refine .inr ⟨by rw [hn]; exact hge, gl, rfl, ?_⟩
      unfold newL newD
      rw [hn]
      have hlt : gl < w2.heap.size := hl.blk.lt
      have q1 : Only F w w5 := (Only.of_below hb2 F).trans h1.2 fun b z => .inl z
      have q2 : Only (fun b => F b ∨ False) w w6 := (q1.mono fun b z => .inl (.inl z)).trans h3 fun b z => .inr (by omega)
      have s1 := h3.size
      have s2 := h1.2.size
      have s3 := hb2.size
      refine LgPost.trans (F' := grow F w2 w5) (G' := fun b => b = gl) (fun b z => ?_) (fun b z => .inr ⟨by omega, by omega⟩) q2 h4
      rcases z with z | z
      · exact .inl z
      · exact .inr ⟨by omega, by omega⟩
    have HL2 := Lib.hid hL2
    have HMG : Hid ((makeP D 0 n []).good (N + n)) := Lib.hid (makeP_good hG 0 n [])
    clear con hL2 h hF hG hl hn
    go_wp2_with fail
    refine csz.mono ?_
    rintro e w4 ⟨rfl, rfl⟩
    clear csz
    go_wp2_with fail
    refine cmk.mono ?_
    rintro e w5 ⟨rfl, hp5⟩
    have hL5 := HL2.out.devPost hp5
    have k5 := hL5.log.blk
    have c1 : w5.cell? ⟨gl, 1, none⟩ = some (.int .u64 0) := k5.cell 1
    have c6 : w5.cell? ⟨gl, 6, none⟩ = some (.int .i64 0) := k5.cell 6
    have z1 : w5.frozen? ⟨gl, 1, none⟩ = false := k5.frozen 1
    have z6 : w5.frozen? ⟨gl, 6, none⟩ = false := k5.frozen 6
    have k6 : Blk ((w5.setCell ⟨gl, 1, none⟩ (.int .u64 1)).setCell ⟨gl, 6, none⟩ (.int .i64 1)) gl 82 (logV (logN ((n - 2) / 2)).h (.pointer (some ⟨gp, 0, none⟩)) ((n - 2) / 2) 1 (.slice none 0 0) (.slice none 0 0) 0) := (k5.set_ 1 _).set_ 6 _
    have o6 : Only (fun b => b = gl) w5 ((w5.setCell ⟨gl, 1, none⟩ (.int .u64 1)).setCell ⟨gl, 6, none⟩ (.int .i64 1)) := ((Only.refl (fun b => b = gl) w5).setCell (p := ⟨gl, 1, none⟩) (.inl rfl) _).setCell (p := ⟨gl, 6, none⟩) (.inl rfl) _
    have hL6 := hL5.box (L' := logN ((n - 2) / 2)) o6 k6 rfl rfl
    have H6 := Lib.hid (And.intro hL6 o6)
    have H5 := Lib.hid hp5
    clear cmk hL5 k5 k6 o6 hL6 hp5 HL2
    go_upto_region 6 with fail
    generalize World.setCell _ _ _ = w6 at *
    have csy := say_any H6.out.1 (show HeadP.Fits ⟨0, 1, 0, 0⟩ from ⟨by decide, by decide, by decide, by decide⟩) (Nat.le_refl _) HMG.out (by omega)
    go_wp2_with fail
    refine csy.mono ?_
    rintro e w7 ⟨rfl, hp7⟩
    have F1 := Lib.hid (FIN.out _ _ _ H5.out H6.out.1 H6.out.2 hp7)
    clear csy hp7 FIN H5 H6 HMG
    go_wp2
    go_ret2
    exact F1.out
end Go.Proofs.YtkganajbilnanaaGreat
