/- The document's log: Entries. Conditions: the log lies there; it holds these records. -/
import Derived.Test.YtkganajbilnanaaGreatYRV
import Derived.Test.YtkganajbilnanaaGreatYRF
import Derived.Test.YtkganajbilnanaaGreatYWEn
set_option linter.unusedVariables false
set_option linter.unusedSimpArgs false
namespace Go.Proofs.YtkganajbilnanaaGreat
open Go.ChangeShapes Go.WideShapes Go.ChangeAt Go.RowKit
open NumMath
set_option maxRecDepth 20000
def fromP (lsn : Nat) (es : List (Nat × RecP)) : List (Nat × RecP) := es.filter fun e => decide (lsn ≤ e.1)
theorem fromP_all (es : List (Nat × RecP)) : fromP 0 es = es := by
  unfold fromP
  rw [List.filter_eq_self]
  intro e _
  exact decide_eq_true (Nat.zero_le _)
theorem fromP_front (lsn : Nat) : ∀ (es : List (Nat × RecP)) (i : Nat), (∀ j e, es[j]? = some e → (j < i ↔ e.1 < lsn)) → fromP lsn es = es.drop i
  | [], i, _ => by simp [fromP]
  | x :: es, 0, h => by
    have h0 := h 0 x rfl
    have hx : decide (lsn ≤ x.1) = true := decide_eq_true (by omega)
    unfold fromP
    rw [List.filter_cons, hx, if_pos rfl, List.drop_zero]
    have := fromP_front lsn es 0 fun j e he => by
      have := h (j + 1) e he
      omega
    unfold fromP at this
    rw [this, List.drop_zero]
  | x :: es, i + 1, h => by
    have h0 := h 0 x rfl
    have hx : decide (lsn ≤ x.1) = false := decide_eq_false (by omega)
    unfold fromP
    rw [List.filter_cons, hx, if_neg (by simp)]
    exact fromP_front lsn es i fun j e he => by
      have := h (j + 1) e he
      omega
theorem fromP_at {L : LogP} {rs : List RecP} (h : L.recs rs) (lsn : Nat) : fromP lsn (entsP L.h.base rs) = (entsP L.h.base rs).drop (atP L lsn).1 := by
  refine fromP_front lsn _ _ fun j e he => ?_
  have hj : j < rs.length := by
    have := (List.getElem?_eq_some_iff.1 he).1
    rw [entsP_length] at this
    exact this
  rw [entsP_at rs L.h.base j hj] at he
  injection he with he
  rw [← he]
  show j < (atP L lsn).1 ↔ L.h.base + offK rs j < lsn
  have hle := offK_le rs j
  have hst : L.stream.length = (rs.flatMap encL).length := by rw [h.stream]
  unfold atP
  by_cases h1 : lsn < L.h.base
  · rw [if_pos h1]
    show j < 0 ↔ _
    omega
  by_cases h2 : L.h.base + L.stream.length ≤ lsn
  · rw [if_neg h1, if_pos h2]
    show j < L.starts.length ↔ _
    rw [h.cnt]
    have hlt : offK rs j < (rs.flatMap encL).length := by
      have h3 := offK_step h.good hj
      have h4 := offK_le rs (j + 1)
      omega
    omega
  rw [if_neg h1, if_neg h2]
  show j < cntP L.starts (lsn - L.h.base) ↔ _
  obtain ⟨x, hx⟩ : ∃ x, lsn - L.h.base = x := ⟨_, rfl⟩
  have mono : ∀ s t, s ≤ t → t < rs.length → offK rs s ≤ offK rs t := fun s t a b => by
    have := offK_mono h.good a (Nat.le_of_lt b)
    omega
  obtain ⟨i, hi, hP⟩ := front_at (fun t => offK rs t < x) rs.length fun s t a b q => by
    have := mono s t a b
    show offK rs s < x
    have q' : offK rs t < x := q
    omega
  have hc : cntP L.starts x = i := cnt_eq (by rw [h.cnt]; exact hi) fun t y hy => by
    obtain ⟨ht, rfl⟩ := h.get hy
    have := hP t ht
    exact ⟨fun q => this.1 q, fun q => by
      rcases Nat.lt_or_ge (offK rs t) x with z | z
      · have := this.2 z
        omega
      · exact z⟩
  rw [hx, hc]
  have := hP j hj
  constructor
  · intro q
    have h3 : offK rs j < x := this.1 q
    omega
  · intro q
    exact this.2 (by show offK rs j < x; omega)
theorem fromP_yes {lsn : Nat} {es : List (Nat × RecP)} {k : Nat} {e : Nat × RecP} (h : es[k]? = some e) (hq : lsn ≤ e.1) : fromP lsn (es.take (k + 1)) = fromP lsn (es.take k) ++ [e] := by
  obtain ⟨hk, rfl⟩ := List.getElem?_eq_some_iff.1 h
  unfold fromP
  rw [List.take_succ_eq_append_getElem hk, List.filter_append, List.filter_cons, decide_eq_true hq, if_pos rfl]
  rfl
theorem fromP_no {lsn : Nat} {es : List (Nat × RecP)} {k : Nat} {e : Nat × RecP} (h : es[k]? = some e) (hq : ¬ lsn ≤ e.1) : fromP lsn (es.take (k + 1)) = fromP lsn (es.take k) := by
  obtain ⟨hk, rfl⟩ := List.getElem?_eq_some_iff.1 h
  unfold fromP
  rw [List.take_succ_eq_append_getElem hk, List.filter_append, List.filter_cons, decide_eq_false hq, if_neg (by simp)]
  simp
theorem fromP_le (lsn : Nat) (es : List (Nat × RecP)) (k : Nat) : (fromP lsn (es.take k)).length ≤ k := by
  unfold fromP
  have := List.length_filter_le (fun e : Nat × RecP => decide (lsn ≤ e.1)) (es.take k)
  rw [List.length_take] at this
  omega
set_option maxHeartbeats 8000000 in
theorem rents_any {L : LogP} {rs : List RecP} {D : DevP} {w : World} {F G : Nat → Prop} {gl : Nat} {pd sv st : Value} (h : RLg L D w F G gl pd sv st) (hk : L.fit rs) (hs62 : L.strips ≤ 62) (lsn : Nat) (hlsn : lsn < 18446744073709551616) :
    Calls Tryz.prog 53 #[.pointer (some ⟨gl, 0, none⟩), .int .u64 (lsn : Nat)] w (EntsPost w.heap.size w (fromP lsn (entsP L.h.base rs))) := by
  obtain ⟨As, cs, rfl, hcs, hps⟩ := h.log.places
  obtain ⟨n, hn⟩ : ∃ n, L.starts.length = n := ⟨_, rfl⟩
  have hn2 := hk.recs.cnt
  have hn3 := hk.ok.cnt
  have HL := Lib.hid h
  have HK := Lib.hid hk
  have HPS := Lib.hid hps
  rw [hn] at hcs hn2 hn3
  have HN2 : Hid (n = rs.length) := Lib.hid hn2
  have HN : Hid (L.starts.length = n) := Lib.hid hn
  obtain ⟨ES, hES⟩ : ∃ es, entsP L.h.base rs = es := ⟨_, rfl⟩
  have HLEN : Hid (ES.length = n) := Lib.hid (by rw [← hES, entsP_length, ← hn2])
  have EAT : Hid (∀ j, j < n → ∀ r, rs[j]? = some r → ES[j]? = some (L.h.base + offK rs j, r)) := Lib.hid fun j hj r hr => by
    have hkj := (List.getElem?_eq_some_iff.1 hr).1
    rw [← hES, entsP_at rs L.h.base j hkj]
    rw [List.getElem?_eq_getElem hkj] at hr
    rw [Option.some.inj hr]
  rw [hES]
  clear h hk hps hn hn2 hcs hES
  go_enter Tryz.func53, Tryz.ntmps53
  go_wp2_with fail
  go_loopw [5, 6, 7, 8, 9, 10] (fun v5 v6 _ _ _ _ wr => ∃ (k : Nat), k ≤ n ∧ v6 = .int .i64 (k : Nat) ∧ EntsG w.heap.size wr v5 (fromP lsn (ES.take k)) ∧ Below w.heap.size w wr) (fun _ iv _ _ _ _ _ => n - (intOf iv).toNat)
  case atStart => exact ⟨0, Nat.zero_le _, rfl, by rw [List.take_zero]; exact EntsG.nil _ _, Below.refl _ _⟩
  case round =>
    obtain ⟨k, hk, rfl, hE, hb⟩ := hrel
    have hLr := HL.out.below hb
    have c5 : wr.cell? ⟨gl, 5, none⟩ = some (.slice As n cs) := by rw [← HN.out]; exact hLr.log.blk.cell 5
    rcases Nat.lt_or_ge k n with hlt | hge
    · have e1 : decide ((k : Int) < (n : Int)) = true := by rw [decide_eq_true_iff]; omega
      have e2 : (0 : Int) ≤ (k : Int) := by omega
      have e3 : (k : Int) < (n : Int) := by omega
      have hki : k < rs.length := by have := HN2.out; omega
      have hki2 : k < L.starts.length := by have := HN.out; omega
      have hbase := HK.out.base
      have hle := offK_le rs k
      have hsl : (rs.flatMap encL).length = L.stream.length := by rw [HK.out.recs.stream]
      obtain ⟨x, hx⟩ : ∃ x, offK rs k = x := ⟨_, rfl⟩
      obtain ⟨bs, hbs⟩ : ∃ b, L.h.base = b := ⟨_, rfl⟩
      obtain ⟨q, hq⟩ : ∃ q, bs + x = q := ⟨_, rfl⟩
      obtain ⟨ga, oa, rfl, h1, h2⟩ := HPS.out k (by unfold placeV; rw [List.length_map]; exact hki2)
      have ca : wr.cell? ⟨ga, oa + k, none⟩ = some (.int .i64 (x : Nat)) := by
        have h3 := (hb.cell (p := ⟨ga, oa + k, none⟩) h1).trans h2
        rw [h3]
        unfold placeV
        rw [List.getElem_map]
        have h4 := HK.out.recs.at_ hki
        rw [List.getElem?_eq_getElem hki2] at h4
        rw [Option.some.inj h4, hx]
      have cb : wr.cell? ⟨gl, 3, none⟩ = some (.int .u64 (bs : Nat)) := by
        have := hLr.log.blk.cell 3
        rw [← hbs]
        exact this
      have hq64 : q < 18446744073709551616 := by rw [hx, hsl] at hle; omega
      have v1 : IntKind.u64.wrap (x : Int) = (x : Int) := by rw [IntKind.wrap_u64]; omega
      have v2 : IntKind.u64.wrap ((bs : Int) + (x : Int)) = (q : Int) := by rw [IntKind.wrap_u64]; omega
      obtain ⟨r, hr⟩ : ∃ r, rs[k]? = some r := ⟨_, List.getElem?_eq_getElem hki⟩
      have hes := EAT.out k hlt r hr
      have HQ : Hid (q = L.h.base + offK rs k) := Lib.hid (by rw [hbs, hx]; exact hq.symm)
      have HES2 : Hid (ES[k]? = some (q, r)) := Lib.hid (by rw [HQ.out]; exact hes)
      have HR := Lib.hid hr
      have HKI := Lib.hid hki
      have HEG := Lib.hid hE
      have HBR := Lib.hid hb
      clear hki hki2 hLr hbase hle hsl hx hbs hq hes hr hE hb h1 h2
      go_upto_region 5 with fail
      go_quiet (fail)
      generalize hwq : World.drewN _ _ = w4
      have hd4 : Drew wr w4 := ⟨_, hwq.symm⟩
      clear hwq v1 v2 ca cb c5
      have hb4 := hd4.below wr.heap.size
      have hBw4 := HBR.out.trans (hb4.mono HBR.out.size)
      have HEG4 := Lib.hid (HEG.out.below hb4)
      have HB := Lib.hid hBw4
      clear hb4 hd4
      by_cases hql : lsn ≤ q
      rotate_left
      · have t1 : decide ((lsn : Int) ≤ (q : Int)) = false := by rw [decide_eq_false_iff_not]; omega
        have HF : Hid (∀ v, EntsG w.heap.size w4 v (fromP lsn (ES.take k)) → EntsG w.heap.size w4 v (fromP lsn (ES.take (k + 1)))) := Lib.hid fun v hv => by rw [fromP_no HES2.out hql]; exact hv
        clear hBw4
        go_wp2
        go_roundw
        case rel => exact ⟨k + 1, by omega, by go_num, HF.out _ HEG4.out, HB.out⟩
        case measure => simp [intOf]; omega
      have t1 : decide ((lsn : Int) ≤ (q : Int)) = true := by rw [decide_eq_true_iff]; omega
      have crd := rrd_any (HL.out.below hBw4) HK.out hs62 q hq64
      have htk := fromP_yes HES2.out (show lsn ≤ (q, r).1 from hql)
      have hil := fromP_le lsn ES k
      generalize fromP lsn (ES.take k) = FL at *
      obtain ⟨i, hi⟩ : ∃ i, FL.length = i := ⟨_, rfl⟩
      rw [hi] at hil
      have HI := Lib.hid hi
      have HTK := Lib.hid htk
      clear hBw4 hi htk hq64
      go_wp2_with fail
      refine crd.mono ?_
      rintro e w5 ⟨hb5, hor⟩
      clear crd t1 hql
      rcases hor with ⟨k', r', m, hr', hq', rfl, hfr⟩ | ⟨hno, -⟩
      rotate_left
      · exact absurd HQ.out (hno k HKI.out)
      have hkk : k' = k := by
        have h1 := HK.out.recs.hit (List.getElem?_eq_some_iff.1 hr').1
        have h2 := HK.out.recs.hit HKI.out
        rw [← hq'] at h1
        rw [← HQ.out] at h2
        have := congrArg Prod.fst (h1.symm.trans h2)
        exact this
      subst hkk
      have hrr := HR.out
      rw [hr'] at hrr
      injection hrr with hrr
      subst hrr
      have hs5 := HB.out.size
      obtain ⟨ms, hm1, hm2, hm3⟩ := HEG4.out
      rw [HI.out] at hm1 hm2
      obtain ⟨A7, c7, rfl, -, -⟩ := own_form hm2
      have hnew : RecOut w5 (.slice A7 i c7) r' m := RecOut.from_ hfr fun b e => (hm2.lt b e).2
      have kx := Blk.new w5 51 (recA r' m)
      have hbx := below_alloc w5 (.cells (recA r' m) 51)
      have hst2 := store_rec_new w5 r' m
      have hown6 : (w5.alloc (.cells (recA r' m) 51)).ownsRow w.heap.size 158 13 (.slice A7 i c7) i (entsA FL ms) := kept_none (below_none hbx) (kept_none (below_none hb5) hm2)
      have HB5 := Lib.hid hb5
      have HHM1 := Lib.hid hm1
      have HM3 := Lib.hid hm3
      have HNEW := Lib.hid hnew
      clear hr' hq' hfr hm1 hm2 hm3 hnew HEG HEG4 HBR
      go_upto_region 8 with (first
        | (refine wpList_store_run rfl 51 (.tmp 8) (.tmp 40) _ _ rfl rfl rfl hst2 ?_; clear hst2)
        | fail)
      generalize World.alloc w5 _ = w6 at *
      obtain ⟨g5, hg5⟩ : ∃ g, w5.heap.size = g := ⟨_, rfl⟩
      rw [hg5] at kx
      rw [hg5]
      have ldR : (Instr.loadAt 51 (.pointer (some ⟨g5, 0, none⟩))).run Tryz.prog w6 = .ok (.agg #[.int .u8 (r'.kind : Nat), .int .u32 (r'.txn : Nat), .int .u64 (r'.prev : Nat), .int .u64 (r'.next : Nat), .int .u32 (r'.chg.page : Nat), .int .u16 (r'.chg.slot : Nat), .bool r'.chg.had, .bool r'.chg.has, .slice m.cm.A1 r'.chg.before.length m.cm.c1, .slice m.cm.A2 r'.chg.after.length m.cm.c2, .slice m.A3 r'.txns.length m.c3, .slice m.A4 r'.pages.length m.c4]) w6 := load_rec kx
      have h1e : ∀ u ∈ entA (q, r') m, u.oneCell' = true := fun u hu => entsA_one [(q, r')] [m] rfl u (by show u ∈ entA (q, r') m ++ []; rw [List.append_nil]; exact hu)
      have hiL : i ≤ 100000 := by omega
      have hB6 : w.heap.size ≤ w6.heap.size := Nat.le_trans hs5 (Nat.le_trans HB5.out.size hbx.size)
      have HBX := Lib.hid hbx
      have FIN : Hid (∀ A8 c8 w8, w8.ownsRow w.heap.size 158 13 (.slice A8 (i + 1) c8) (i + 1) (entsA FL ms ++ entA (q, r') m) → (w6.alloc (.cells (entA (q, r') m).toArray 158 (0, 0))).grownBy w8 (Value.slice A7 i c7).ownBlock →
          ((Value.slice A8 (i + 1) c8).ownBlock = (Value.slice A7 i c7).ownBlock ∨ (Value.slice A8 (i + 1) c8).ownBlock = some (w6.alloc (.cells (entA (q, r') m).toArray 158 (0, 0))).heap.size) →
          EntsG w.heap.size w8 (.slice A8 (i + 1) c8) (fromP lsn (ES.take (k' + 1))) ∧ Below w.heap.size w w8) := Lib.hid fun A8 c8 w8 p1 p2 p3 => by
        have hb7 := (Below.refl w6.heap.size w6).alloc (Nat.le_refl _) (.cells (entA (q, r') m).toArray 158 (0, 0))
        rw [HTK.out]
        refine ⟨⟨ms ++ [m], ?_, ?_, ?_⟩, ?_⟩
        · rw [List.length_append, List.length_append, HI.out, HHM1.out]; rfl
        · rw [List.length_append, HI.out, entsA_snoc _ _ _ _ (by rw [HHM1.out, HI.out])]
          exact p1
        · intro j e mm hj hj'
          rcases Nat.lt_or_ge j i with hji | hji
          · rw [List.getElem?_append_left (by rw [HI.out]; exact hji)] at hj
            rw [List.getElem?_append_left (by rw [HHM1.out]; exact hji)] at hj'
            exact ((((HM3.out j e mm hj hj').below HB5.out).below HBX.out).below hb7).grown p2 p3
          · rw [List.getElem?_append_right (by rw [HI.out]; exact hji), HI.out] at hj
            rw [List.getElem?_append_right (by rw [HHM1.out]; exact hji), HHM1.out] at hj'
            have hj0 : j - i = 0 := by have := (List.getElem?_eq_some_iff.1 hj).1; simpa using this
            rw [hj0] at hj hj'
            injection hj with hj
            injection hj' with hj'
            rw [← hj, ← hj']
            exact ((HNEW.out.below HBX.out).below hb7).grown p2 p3
        · have x6 := (HB.out.trans (HB5.out.mono HB.out.size)).trans (HBX.out.mono (Nat.le_trans HB.out.size HB5.out.size))
          have x7 := x6.trans (hb7.mono x6.size)
          exact x7.grown p2 x7.size fun b e => (by
            have := (hown6.lt b e).1
            omega)
      clear kx hbx hg5 hs5
      generalize entsA FL ms = xs7 at *
      go_wp2_with (first
        | (refine wpList_load_run rfl 51 (.tmp 8) _ _ rfl rfl ldR ?_; clear ldR)
        | (refine wpList_snoc_ents2 hown6 (entA (q, r') m) rfl h1e hiL hB6 _ _ rfl (.tmp 43) (.tmp 47) rfl rfl rfl ?_; intro A8 c8 w8 p1 p2 p3; have HR8 := Lib.hid (FIN.out A8 c8 w8 p1 p2 p3); clear FIN p1 p2 p3 h1e hown6 hB6)
        | fail)
      go_roundw
      case rel => exact ⟨k' + 1, by omega, by go_num, HR8.out⟩
      case measure => simp [intOf]; omega
    · obtain rfl : k = n := by omega
      have e1 : decide ((k : Int) < (k : Int)) = false := by rw [decide_eq_false_iff_not]; omega
      have htk : ES.take k = ES := List.take_of_length_le (by rw [HLEN.out]; exact Nat.le_refl _)
      rw [htk] at hE
      obtain ⟨A9, c9, rfl, hat⟩ := hE.read
      have HF : Hid (EntsPost w.heap.size w (fromP lsn ES) (.returned (.slice A9 (fromP lsn ES).length c9)) wr) := Lib.hid ⟨hb, A9, c9, rfl, hat⟩
      clear hat htk hE hb hLr
      generalize (fromP lsn ES).length = el at *
      go_wp2
      go_ret
      exact HF.out
end Go.Proofs.YtkganajbilnanaaGreat
