/- The document's log as it lies in memory, beside its device. Conditions: none. -/
import Derived.Test.YtkganajbilnanaaGreatYWK
import Derived.Test.YtkganajbilnanaaGreatYRDev
set_option linter.unusedVariables false
set_option linter.unusedSimpArgs false
namespace Go.Proofs.YtkganajbilnanaaGreat
open Go.ChangeShapes Go.WideShapes Go.ChangeAt Go.RowKit
open NumMath
def rlogV (h : HeadP) (dp : Value) (strips slot : Nat) (sv st : Value) (lasts : Nat) : Array Value :=
  #[dp, .int .i64 (strips : Nat), .int .i64 (h.area : Nat), .int .u64 (h.base : Nat), sv, st, .int .i64 (lasts : Nat), .int .u64 (h.check : Nat), .int .u64 (h.stamp : Nat), .int .i64 (slot : Nat)]
structure RLogAt (L : LogP) (w : World) (G : Nat → Prop) (gl : Nat) (dp sv st : Value) : Prop where
  blk : Blk w gl 98 (rlogV L.h dp L.strips L.slot sv st L.lasts)
  inG : G gl
  strm : Strm w G sv L.stream
  strt : w.ownsRow 0 3 1 st L.starts.length (placeV L.starts)
  strtG : ∀ b, st.ownBlock = some b → G b
section
variable {L L' : LogP} {w w' : World} {G G' S : Nat → Prop} {gl : Nat} {dp sv st : Value}
theorem RLogAt.only (h : RLogAt L w G gl dp sv st) (ho : Only S w w') (hs : ∀ b, G b → ¬ S b) : RLogAt L w' G gl dp sv st :=
  ⟨h.blk.only ho (hs gl h.inG), h.inG, h.strm.only ho fun b q _ => hs b q, ho.own h.strt fun k e => hs k (h.strtG k e), h.strtG⟩
theorem RLogAt.below (h : RLogAt L w G gl dp sv st) (hb : Below w.heap.size w w') : RLogAt L w' G gl dp sv st := h.only (Only.of_below hb (fun _ => False)) fun _ _ q => q
theorem RLogAt.box (h : RLogAt L w G gl dp sv st) (ho : Only (fun b => b = gl) w w') (hb : Blk w' gl 98 (rlogV L'.h dp L'.strips L'.slot sv st L'.lasts)) (h1 : L'.stream = L.stream) (h2 : L'.starts = L.starts) : RLogAt L' w' G gl dp sv st := by
  have hgl : Ty w gl 98 := h.blk.ty
  refine ⟨hb, h.inG, ?_, ?_, h.strtG⟩
  · rw [h1]
    exact h.strm.only ho fun b _ hu e => by subst e; exact absurd (hu.uniq' hgl) (by decide)
  · rw [h2]
    exact ho.own h.strt fun k e q => by subst q; exact absurd ((own_ty h.strt e).uniq hgl) (by decide)
theorem RLogAt.places (h : RLogAt L w G gl dp sv st) : ∃ A c, st = .slice A L.starts.length c ∧ L.starts.length ≤ c ∧ At w w.heap.size A (placeV L.starts) := by
  obtain ⟨A, c, e, hc, _⟩ := own_form h.strt
  refine ⟨A, c, e, hc, ?_⟩
  have := h.strt
  rw [e] at this
  exact At.own this
theorem RLogAt.bytes (h : RLogAt L w G gl dp sv st) : ∃ A c, sv = .slice A L.stream.length c ∧ L.stream.length ≤ c ∧ Bytes w w.heap.size A L.stream := h.strm.1.bytes
end
structure RLg (L : LogP) (D : DevP) (w : World) (F G : Nat → Prop) (gl : Nat) (pd sv st : Value) : Prop where
  dev : IsRDev D w F pd
  log : RLogAt L w G gl pd sv st
  dis : ∀ b, F b → ¬ G b
  hiF : ∀ b, F b → b < w.heap.size
  hiG : ∀ b, G b → b < w.heap.size
def RLgPost (L' : LogP) (D' : DevP) (F G : Nat → Prop) (gl : Nat) (pd : Value) (w w' : World) : Prop :=
  ∃ F' G' sv st, RLg L' D' w' F' G' gl pd sv st ∧ (∀ b, F' b → grow F w w' b) ∧ (∀ b, G' b → grow G w w' b) ∧ Only (fun b => F b ∨ G b) w w'
section
variable {L L' L1 : LogP} {D D' D1 : DevP} {w w' w1 : World} {F G F1 G1 : Nat → Prop} {gl : Nat} {pd sv st : Value}
theorem RLg.below (h : RLg L D w F G gl pd sv st) (hb : Below w.heap.size w w') : RLg L D w' F G gl pd sv st :=
  ⟨h.dev.below hb, h.log.below hb, h.dis, fun b q => Nat.lt_of_lt_of_le (h.hiF b q) hb.size, fun b q => Nat.lt_of_lt_of_le (h.hiG b q) hb.size⟩
theorem RLg.drew (h : RLg L D w F G gl pd sv st) : RLg L D w.drew F G gl pd sv st := h.below (below_drew0 w)
theorem RLg.devPost (h : RLg L D w F G gl pd sv st) (hp : RPost D' F pd w w') : RLg L D' w' (grow F w w') G gl pd sv st :=
  ⟨hp.1, h.log.only hp.2 fun b q q' => h.dis b q' q, fun b q q' => q.elim (fun z => h.dis b z q') fun z => by have := h.hiG b q'; omega,
    fun b q => q.elim (fun z => Nat.lt_of_lt_of_le (h.hiF b z) hp.2.size) fun z => z.2, fun b q => Nat.lt_of_lt_of_le (h.hiG b q) hp.2.size⟩
theorem RLg.box (h : RLg L D w F G gl pd sv st) (ho : Only (fun b => b = gl) w w') (hb : Blk w' gl 98 (rlogV L'.h pd L'.strips L'.slot sv st L'.lasts)) (h1 : L'.stream = L.stream) (h2 : L'.starts = L.starts) : RLg L' D w' F G gl pd sv st :=
  ⟨h.dev.only ho fun b q e => by subst e; exact h.dis b q h.log.inG, h.log.box ho hb h1 h2, h.dis, fun b q => Nat.lt_of_lt_of_le (h.hiF b q) ho.size, fun b q => Nat.lt_of_lt_of_le (h.hiG b q) ho.size⟩
theorem RLgPost.below (h : RLg L D w F G gl pd sv st) (hb : Below w.heap.size w w') : RLgPost L D F G gl pd w w' := ⟨F, G, sv, st, h.below hb, fun b q => .inl q, fun b q => .inl q, Only.of_below hb _⟩
theorem RLgPost.dev (h : RLg L D w F G gl pd sv st) (hp : RPost D' F pd w w') : RLgPost L D' F G gl pd w w' := ⟨_, G, sv, st, h.devPost hp, fun b q => q, fun b q => .inl q, hp.2.mono fun b q => .inl (.inl q)⟩
theorem RLgPost.box (h : RLg L D w F G gl pd sv st) (ho : Only (fun b => b = gl) w w') (hb : Blk w' gl 98 (rlogV L'.h pd L'.strips L'.slot sv st L'.lasts)) (h1 : L'.stream = L.stream) (h2 : L'.starts = L.starts) : RLgPost L' D F G gl pd w w' :=
  ⟨F, G, sv, st, h.box ho hb h1 h2, fun b q => .inl q, fun b q => .inl q, ho.mono fun b e => .inl (.inr (by rw [e]; exact h.log.inG))⟩
theorem RLgPost.trans {F' G' : Nat → Prop} (hF : ∀ b, F' b → grow F w w1 b) (hG : ∀ b, G' b → grow G w w1 b) (ho : Only (fun b => F b ∨ G b) w w1) (h2 : RLgPost L' D' F' G' gl pd w1 w') : RLgPost L' D' F G gl pd w w' := by
  obtain ⟨F2, G2, sv, st, q1, q2, q3, q4⟩ := h2
  have hs := ho.size
  have key : ∀ {A B C : Nat → Prop} {b : Nat}, (∀ b, A b → grow B w w1 b) → (∀ b, C b → grow A w1 w' b) → C b → grow B w w' b := fun {A B C b} h1 h2 q => by
    rcases h2 b q with z | z
    · rcases h1 b z with y | y
      · exact .inl y
      · exact .inr ⟨y.1, Nat.lt_of_lt_of_le y.2 q4.size⟩
    · exact .inr ⟨Nat.le_trans hs z.1, z.2⟩
  refine ⟨F2, G2, sv, st, q1, fun b q => key hF q2 q, fun b q => key hG q3 q, ho.trans q4 fun b q => ?_⟩
  rcases q with q | q
  · rcases hF b q with z | z
    · exact .inl (.inl z)
    · exact .inr z.1
  · rcases hG b q with z | z
    · exact .inl (.inr z)
    · exact .inr z.1
theorem RLgPost.lead (hb : Below w.heap.size w w1) (h2 : RLgPost L' D' F G gl pd w1 w') : RLgPost L' D' F G gl pd w w' :=
  RLgPost.trans (fun b q => .inl q) (fun b q => .inl q) (Only.of_below hb _) h2
end
end Go.Proofs.YtkganajbilnanaaGreat
namespace Go.Proofs.YtkganajbilnanaaGreat
open Go.ChangeShapes Go.WideShapes Go.ChangeAt Go.RowKit
open NumMath
set_option maxRecDepth 20000
section
variable {h : HeadP} {dp sv st : Value} {strips slot lasts gl : Nat} {w : World}
theorem rbase_any (k : Blk w gl 98 (rlogV h dp strips slot sv st lasts)) : Calls Tryz.prog 40 #[.pointer (some ⟨gl, 0, none⟩)] w fun e w' => e = .returned (.int .u64 (h.base : Nat)) ∧ w = w' := by
  have c1 : w.cell? ⟨gl, 3, none⟩ = some (.int .u64 (h.base : Nat)) := k.cell 3
  clear k
  go_enter Tryz.func40, Tryz.ntmps40
  go_wp2
  go_ret
  exact ⟨rfl, rfl⟩
theorem rlasts_any (k : Blk w gl 98 (rlogV h dp strips slot sv st lasts)) (hs : h.base + lasts < 18446744073709551616) : Calls Tryz.prog 43 #[.pointer (some ⟨gl, 0, none⟩)] w fun e w' => e = .returned (.int .u64 ((h.base + lasts : Nat) : Int)) ∧ Drew w w' := by
  have c1 : w.cell? ⟨gl, 3, none⟩ = some (.int .u64 (h.base : Nat)) := k.cell 3
  have c9 : w.cell? ⟨gl, 6, none⟩ = some (.int .i64 (lasts : Nat)) := k.cell 6
  generalize h.base = b at *
  have v1 : IntKind.u64.wrap (lasts : Int) = (lasts : Int) := by rw [IntKind.wrap_u64]; omega
  obtain ⟨s, hs'⟩ : ∃ s, b + lasts = s := ⟨_, rfl⟩
  have v2 : IntKind.u64.wrap ((b : Int) + (lasts : Int)) = (s : Int) := by rw [IntKind.wrap_u64]; omega
  rw [hs']
  clear k hs hs'
  go_enter Tryz.func43, Tryz.ntmps43
  go_wp2_with fail
  go_quiet (fail)
  go_wp2
  go_ret
  exact ⟨rfl, _, rfl⟩
theorem rend_any {A : Option Addr} {n c : Nat} (k : Blk w gl 98 (rlogV h dp strips slot (.slice A n c) st lasts)) (hs : h.base + n < 18446744073709551616) : Calls Tryz.prog 41 #[.pointer (some ⟨gl, 0, none⟩)] w fun e w' => e = .returned (.int .u64 ((h.base + n : Nat) : Int)) ∧ Drew w w' := by
  have c1 : w.cell? ⟨gl, 3, none⟩ = some (.int .u64 (h.base : Nat)) := k.cell 3
  have c7 : w.cell? ⟨gl, 4, none⟩ = some (.slice A n c) := k.cell 4
  generalize h.base = b at *
  have v1 : IntKind.u64.wrap (n : Int) = (n : Int) := by rw [IntKind.wrap_u64]; omega
  obtain ⟨s, hs'⟩ : ∃ s, b + n = s := ⟨_, rfl⟩
  have v2 : IntKind.u64.wrap ((b : Int) + (n : Int)) = (s : Int) := by rw [IntKind.wrap_u64]; omega
  rw [hs']
  clear k hs hs'
  go_enter Tryz.func41, Tryz.ntmps41
  go_wp2_with fail
  go_quiet (fail)
  go_wp2
  go_ret
  exact ⟨rfl, _, rfl⟩
theorem rcheck_any (k : Blk w gl 98 (rlogV h dp strips slot sv st lasts)) : Calls Tryz.prog 45 #[.pointer (some ⟨gl, 0, none⟩)] w fun e w' => e = .returned (.int .u64 (h.check : Nat)) ∧ w = w' := by
  have c2 : w.cell? ⟨gl, 7, none⟩ = some (.int .u64 (h.check : Nat)) := k.cell 7
  clear k
  go_enter Tryz.func45, Tryz.ntmps45
  go_wp2
  go_ret
  exact ⟨rfl, rfl⟩
theorem rRoom_any {A : Option Addr} {n c : Nat} (k : Blk w gl 98 (rlogV h dp strips slot (.slice A n c) st lasts)) (hs : strips ≤ 100000) (hn : n ≤ strips * 127) : Calls Tryz.prog 46 #[.pointer (some ⟨gl, 0, none⟩)] w fun e w' => e = .returned (.int .u64 ((strips * 127 - n : Nat) : Int)) ∧ Drew w w' := by
  have c7 : w.cell? ⟨gl, 4, none⟩ = some (.slice A n c) := k.cell 4
  have c1 : w.cell? ⟨gl, 1, none⟩ = some (.int .i64 (strips : Nat)) := k.cell 1
  obtain ⟨s, hs'⟩ : ∃ s, strips * 127 = s := ⟨_, rfl⟩
  rw [hs'] at hn ⊢
  obtain ⟨d, hd⟩ : ∃ d, s - n = d := ⟨_, rfl⟩
  have v0 : IntKind.i64.wrap (127 * (strips : Int)) = (s : Int) := by rw [IntKind.wrap_i64]; omega
  have v1 : IntKind.i64.wrap ((s : Int) - (n : Int)) = (d : Int) := by rw [IntKind.wrap_i64]; omega
  have v2 : IntKind.u64.wrap (d : Int) = (d : Int) := by rw [IntKind.wrap_u64]; omega
  rw [hd]
  clear k hs hs' hd hn
  go_enter Tryz.func46, Tryz.ntmps46
  go_wp2_with fail
  go_quiet (fail)
  go_wp2
  go_ret
  exact ⟨rfl, _, rfl⟩
theorem rfirst_any (k : Blk w gl 98 (rlogV h dp strips slot sv st lasts)) (hs : strips ≤ 100000) (a : Nat) (ha : a < 2) : Calls Tryz.prog 34 #[.pointer (some ⟨gl, 0, none⟩), .int .i64 (a : Nat)] w fun e w' => e = .returned (.int .i64 ((2 + a * strips : Nat) : Int)) ∧ w = w' := by
  have c5 : w.cell? ⟨gl, 1, none⟩ = some (.int .i64 (strips : Nat)) := k.cell 1
  have hm : a * strips ≤ 1 * 100000 := Nat.mul_le_mul (by omega) hs
  obtain ⟨m, hm'⟩ : ∃ m, a * strips = m := ⟨_, rfl⟩
  have v1 : IntKind.i64.wrap ((a : Int) * (strips : Int)) = (m : Int) := by rw [show (a : Int) * (strips : Int) = ((a * strips : Nat) : Int) by push_cast; rfl, hm', IntKind.wrap_i64]; omega
  obtain ⟨s, hs'⟩ : ∃ s, 2 + m = s := ⟨_, rfl⟩
  have v2 : IntKind.i64.wrap (2 + (m : Int)) = (s : Int) := by rw [IntKind.wrap_i64]; omega
  rw [hm', hs']
  clear k hs hs' hm hm' ha
  go_enter Tryz.func34, Tryz.ntmps34
  go_wp2
  go_ret
  exact ⟨rfl, rfl⟩
end
theorem rbehind_any {h : HeadP} {dp : Value} {strips slot lasts gl : Nat} {w : World} {A As : Option Addr} {n c cs : Nat} {starts : List Nat} (B : Nat) (k : Nat)
    (kb : Blk w gl 98 (rlogV h dp strips slot (.slice A n c) (.slice As starts.length cs) lasts)) (hs : At w B As (placeV starts)) (hk : k ≤ 1000000) :
    Calls Tryz.prog 101 #[.pointer (some ⟨gl, 0, none⟩), .int .i64 (k : Nat)] w fun e w' => e = .returned (.int .i64 (behindP starts n k : Nat)) ∧ w = w' := by
  have c7 : w.cell? ⟨gl, 4, none⟩ = some (.slice A n c) := kb.cell 4
  have c8 : w.cell? ⟨gl, 5, none⟩ = some (.slice As starts.length cs) := kb.cell 5
  obtain ⟨q, hq⟩ : ∃ q, k + 1 = q := ⟨_, rfl⟩
  have v1 : IntKind.i64.wrap ((k : Int) + 1) = (q : Int) := by rw [IntKind.wrap_i64]; omega
  obtain ⟨m, hm⟩ : ∃ m, starts.length = m := ⟨_, rfl⟩
  have HP : Hid (behindP starts n k = starts[q]?.getD n) := Lib.hid (by unfold behindP; rw [hq])
  rcases Nat.lt_or_ge q m with hlt | hge
  · have hql : q < starts.length := by omega
    obtain ⟨b, o, hA, hb, hc⟩ := hs q (by unfold placeV; rw [List.length_map]; exact hql)
    have e1 : decide ((q : Int) < (m : Int)) = true := by rw [decide_eq_true_iff]; omega
    have e2 : (0 : Int) ≤ (q : Int) := by omega
    have e3 : (q : Int) < (m : Int) := by omega
    unfold placeV at hc
    rw [List.getElem_map] at hc
    have hx : starts[q]?.getD n = starts[q] := by rw [List.getElem?_eq_getElem hql]; rfl
    rw [hm] at c8
    rw [hA] at c8
    generalize starts[q] = x at *
    have HX := Lib.hid hx
    clear hx hA hs kb hq hm hql
    go_enter Tryz.func101, Tryz.ntmps101
    go_wp2
    go_ret
    exact ⟨by rw [HP.out, HX.out]; rfl, rfl⟩
  · have e1 : decide ((q : Int) < (m : Int)) = false := by rw [decide_eq_false_iff_not]; omega
    have u1 : ¬ (q < m) := by omega
    have hx : starts[q]?.getD n = n := by rw [List.getElem?_eq_none (by omega)]; rfl
    have HX := Lib.hid hx
    rw [hm] at c8
    clear hx hs kb hq hm
    go_enter Tryz.func101, Tryz.ntmps101
    go_wp2
    go_ret
    exact ⟨by rw [HP.out, HX.out]; rfl, rfl⟩
end Go.Proofs.YtkganajbilnanaaGreat
