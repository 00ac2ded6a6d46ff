/- The document's log, plain: its header, its Flush. Conditions: none; no program in sight. -/
import Derived.Test.YtkganajbilnanaaGreatYWZ
import Derived.Test.YtkganajbilnanaaGreatYRK
set_option linter.unusedVariables false
set_option linter.unusedSimpArgs false
namespace Go.Proofs.YtkganajbilnanaaGreat
open NumMath
theorem front_at (P : Nat → Prop) [DecidablePred P] : ∀ n, (∀ s t, s ≤ t → t < n → P t → P s) → ∃ i, i ≤ n ∧ ∀ t, t < n → (t < i ↔ P t)
  | 0, _ => ⟨0, Nat.le_refl _, fun t h => absurd h (by omega)⟩
  | n + 1, h => by
    obtain ⟨i, hi, hP⟩ := front_at P n fun s t a b => h s t a (by omega)
    by_cases hn : P n
    · refine ⟨n + 1, Nat.le_refl _, fun t ht => ⟨fun _ => h t n (by omega) (by omega) hn, fun _ => ht⟩⟩
    · refine ⟨i, by omega, fun t ht => ?_⟩
      rcases Nat.lt_or_ge t n with z | z
      · exact hP t z
      · obtain rfl : t = n := by omega
        exact ⟨fun q => by omega, fun q => absurd q hn⟩
theorem kP_iff {L : LogP} {rs : List RecP} (h : L.recs rs) (lsn : Nat) : kP L lsn ≤ rs.length ∧ ∀ j, j < rs.length → (j < kP L lsn ↔ L.h.base + offK rs j ≤ lsn) := by
  have hle := fun j => offK_le rs j
  have hst : L.stream.length = (rs.flatMap encL).length := by rw [h.stream]
  by_cases h1 : lsn < L.h.base
  · have : kP L lsn = 0 := by unfold kP atP; rw [if_pos h1]; rfl
    rw [this]
    exact ⟨Nat.zero_le _, fun j hj => by omega⟩
  by_cases h2 : L.h.base + L.stream.length ≤ lsn
  · have : kP L lsn = rs.length := by unfold kP atP; rw [if_neg h1, if_pos h2, ← h.cnt]; rfl
    rw [this]
    refine ⟨Nat.le_refl _, fun j hj => ⟨fun _ => ?_, fun _ => hj⟩⟩
    have := hle j
    omega
  obtain ⟨x, hx⟩ : ∃ x, lsn - L.h.base = x := ⟨_, rfl⟩
  have mono : ∀ s t, s ≤ t → t < rs.length → offK rs s ≤ offK rs t := fun s t a b => by
    have := offK_mono h.good a (Nat.le_of_lt b)
    omega
  obtain ⟨i, hi, hP⟩ := front_at (fun t => offK rs t < x) rs.length fun s t a b q => by
    have := mono s t a b
    show offK rs s < x
    have q' : offK rs t < x := q
    omega
  have hc : cntP L.starts x = i := cnt_eq (by rw [h.cnt]; exact hi) fun t y hy => by
    obtain ⟨ht, rfl⟩ := h.get hy
    have := hP t ht
    exact ⟨fun q => this.1 q, fun q => by
      rcases Nat.lt_or_ge (offK rs t) x with z | z
      · have := this.2 z
        omega
      · exact z⟩
  have hk : kP L lsn = i + if L.starts[i]? = some x then 1 else 0 := by
    unfold kP atP
    rw [if_neg h1, if_neg h2, hx, hc]
    by_cases q : L.starts[i]? = some x
    · rw [if_pos q, if_pos (by exact decide_eq_true q)]
    · rw [if_neg q, if_neg (by simp [q])]
  rw [hk]
  by_cases q : L.starts[i]? = some x
  · obtain ⟨hil, hxi⟩ := h.get q
    rw [if_pos q]
    refine ⟨by omega, fun j hj => ?_⟩
    have h3 := hP j hj
    rcases Nat.lt_trichotomy j i with z | z | z
    · have h4 : offK rs j < x := h3.1 z
      omega
    · subst z
      omega
    · have h4 := offK_mono h.good (show i ≤ j by omega) (Nat.le_of_lt hj)
      omega
  · rw [if_neg q]
    refine ⟨by omega, fun j hj => ?_⟩
    have h3 := hP j hj
    rcases Nat.lt_or_ge j i with z | z
    · have h4 : offK rs j < x := h3.1 z
      omega
    · have h4 : ¬ offK rs j < x := fun y => by have := h3.2 y; omega
      have h5 : offK rs i ≤ offK rs j := mono i j z hj
      have h6 : offK rs i ≠ x := fun y => q (by rw [h.at_ (by omega), y])
      have h7 : ¬ offK rs i < x := fun y => by have := (hP i (by omega)).2 y; omega
      omega
def toN (L : LogP) (lsn : Nat) : Nat → Nat
  | 0 => 0
  | k + 1 => if L.h.base + L.starts[k]?.getD 0 ≤ lsn then behindP L.starts L.stream.length k else toN L lsn k
theorem toN_is {L : LogP} {rs : List RecP} (h : L.recs rs) (lsn : Nat) : ∀ m, m ≤ rs.length → toN L lsn m = if min m (kP L lsn) = 0 then 0 else behindP L.starts L.stream.length (min m (kP L lsn) - 1)
  | 0, _ => by rw [Nat.zero_min, if_pos rfl]; rfl
  | m + 1, hm => by
    obtain ⟨h1, h2⟩ := kP_iff h lsn
    have h3 := h2 m (by omega)
    have ih := toN_is h lsn m (by omega)
    have hg : L.starts[m]?.getD 0 = offK rs m := by rw [h.at_ (by omega)]; rfl
    show (if L.h.base + L.starts[m]?.getD 0 ≤ lsn then _ else _) = _
    rw [hg]
    by_cases q : L.h.base + offK rs m ≤ lsn
    · have := h3.2 q
      rw [if_pos q, if_neg (by omega), show min (m + 1) (kP L lsn) - 1 = m by omega]
    · have : ¬ m < kP L lsn := fun y => q (h3.1 y)
      rw [if_neg q, ih, show min (m + 1) (kP L lsn) = min m (kP L lsn) by omega]
theorem toN_all {L : LogP} {rs : List RecP} (h : L.recs rs) (lsn : Nat) : toN L lsn L.starts.length = toP L lsn := by
  rw [h.cnt, toN_is h lsn _ (Nat.le_refl _), Nat.min_eq_right (kP_iff h lsn).1]
  rfl
theorem toN_yes {L : LogP} {lsn k : Nat} (h : L.h.base + L.starts[k]?.getD 0 ≤ lsn) : toN L lsn (k + 1) = behindP L.starts L.stream.length k := if_pos h
theorem toN_no {L : LogP} {lsn k : Nat} (h : ¬ L.h.base + L.starts[k]?.getD 0 ≤ lsn) : toN L lsn (k + 1) = toN L lsn k := if_neg h
def zerosP (b : List Nat) (k : Nat) : Bool := decide (∀ i, i < k → 25 ≤ i → b.getD i 0 = 0)
theorem zerosP_next (b : List Nat) (k : Nat) (hk : 25 ≤ k) : zerosP b (k + 1) = (zerosP b k && decide (b.getD k 0 = 0)) := by
  unfold zerosP
  rw [Bool.eq_iff_iff, Bool.and_eq_true, decide_eq_true_iff, decide_eq_true_iff, decide_eq_true_iff]
  refine ⟨fun h => ⟨fun i a c => h i (by omega) c, h k (by omega) hk⟩, fun h i c a => ?_⟩
  rcases Nat.lt_or_ge i k with z | z
  · exact h.1 i z a
  · obtain rfl : i = k := by omega
    exact h.2
def rhOk (b : List Nat) : Bool := decide ((wheadP b).stamp ≠ 0) && (decide ((wheadP b).area < 2) && (decide ((wheadP b).base ≠ 0) && (decide ((wheadP b).base ≤ 9223372036854775808) && decide (getL (b.drop 120) = (wheadP b).stamp))))
theorem hsec_iff {b : List Nat} (hs : Small b) (hl : b.length = 128) : b = hsec (wheadP b) ↔ getL (b.drop 120) = (wheadP b).stamp ∧ ∀ i, 25 ≤ i → i < 120 → b.getD i 0 = 0 := by
  have l8 : ∀ v, (putF 8 v).length = 8 := fun v => putF_length 8 v
  have d120 : ∀ h : HeadP, (hsec h).drop 120 = putF 8 h.stamp := fun h => by unfold hsec; exact List.drop_left' (by simp [putF_length])
  have sm : ∀ n, Small (b.drop n) := fun n x hx => hs x (List.mem_of_mem_drop hx)
  have st : ∀ n, Small ((b.drop n).take 8) := fun n x hx => sm n x (List.mem_of_mem_take hx)
  have pg : ∀ n, n + 8 ≤ 128 → putF 8 (getL ((b.drop n).take 8)) = (b.drop n).take 8 := fun n hn => by
    have e : ((b.drop n).take 8).length = 8 := by rw [List.length_take, List.length_drop]; omega
    have := put_getL ((b.drop n).take 8) (st n)
    rw [e] at this
    exact this
  have hst : getL (b.drop 120) = getL ((b.drop 120).take 8) := by rw [List.take_of_length_le (by rw [List.length_drop]; omega)]
  constructor
  · intro e
    obtain ⟨f0, -, -, -⟩ := wheadP_fits hs
    refine ⟨?_, fun i h1 h2 => ?_⟩
    · rw [e, d120, getL_put, ← e]
      exact Nat.mod_eq_of_lt f0
    · rw [e]
      have : hsec (wheadP b) = (((putF 8 (wheadP b).stamp ++ [(wheadP b).area]) ++ putF 8 (wheadP b).base) ++ putF 8 (wheadP b).check) ++ (List.replicate 95 0 ++ putF 8 (wheadP b).stamp) := by unfold hsec; rw [List.append_assoc]
      rw [this, List.getD_eq_getElem?_getD, List.getElem?_append_right (by simp [putF_length]; omega), List.getElem?_append_left (by simp [putF_length]; omega), List.getElem?_replicate_of_lt (by simp [putF_length]; omega)]
      rfl
  · rintro ⟨e1, e2⟩
    have z0 := pg 0 (by omega)
    rw [List.drop_zero] at z0
    have z9 := pg 9 (by omega)
    have z17 := pg 17 (by omega)
    have z120 : putF 8 (wheadP b).stamp = b.drop 120 := by
      rw [← e1, hst, pg 120 (by omega), List.take_of_length_le (by rw [List.length_drop]; omega)]
    have h8 : 8 < b.length := by omega
    have ar : b.getD 8 0 = b[8] := by rw [List.getD_eq_getElem?_getD, List.getElem?_eq_getElem h8]; rfl
    have zz : List.replicate 95 0 = (b.drop 25).take 95 := by
      apply List.ext_getElem
      · rw [List.length_replicate, List.length_take, List.length_drop]; omega
      · intro i h1 h2
        rw [List.length_replicate] at h1
        rw [List.getElem_replicate, List.getElem_take, List.getElem_drop]
        have := e2 (25 + i) (by omega) (by omega)
        rw [List.getD_eq_getElem?_getD, List.getElem?_eq_getElem (by omega)] at this
        exact this.symm
    have key : ∀ n m, n + m ≤ 128 → b.drop n = (b.drop n).take m ++ b.drop (n + m) := fun n m _ => by
      conv => lhs; rw [← List.take_append_drop m (b.drop n)]
      rw [List.drop_drop]
    have k0 := key 0 8 (by omega)
    rw [List.drop_zero] at k0
    have k8 : b.drop 8 = [b[8]] ++ b.drop 9 := by rw [List.drop_eq_getElem_cons h8]; rfl
    have eh : hsec (wheadP b) = (((putF 8 (getL (b.take 8)) ++ [b.getD 8 0]) ++ putF 8 (getL ((b.drop 9).take 8))) ++ putF 8 (getL ((b.drop 17).take 8))) ++ List.replicate 95 0 ++ putF 8 (wheadP b).stamp := rfl
    rw [eh, z0, z9, z17, z120, ar, zz, List.append_assoc, List.append_assoc, List.append_assoc, List.append_assoc]
    have t1 := key 25 95 (by omega)
    have t2 := key 17 8 (by omega)
    have t3 := key 9 8 (by omega)
    simp only [Nat.reduceAdd, Nat.zero_add] at t1 t2 t3 k0
    rw [← t1, ← t2, ← t3, ← k8, ← k0]
theorem rhead_is {b : List Nat} (hs : Small b) (hl : b.length = 128) : (rhOk b && zerosP b 120) = isHead b := by
  unfold rhOk isHead zerosP
  obtain ⟨f0, f1, f2, f3⟩ := wheadP_fits hs
  rw [Bool.eq_iff_iff]
  simp only [Bool.and_eq_true, decide_eq_true_iff]
  rw [hsec_iff hs hl]
  refine ⟨fun h => ⟨h.1.1, ?_, h.1.2.1, h.1.2.2.2.2, fun i a c => h.2 i c a⟩, fun h => ⟨⟨h.1, h.2.2.1, ?_, ?_, h.2.2.2.1⟩, fun i c a => h.2.2.2.2 i a c⟩⟩
  · obtain ⟨⟨-, -, a, c, -⟩, -⟩ := h
    omega
  · obtain ⟨-, a, -⟩ := h
    omega
  · obtain ⟨-, a, -⟩ := h
    omega
end Go.Proofs.YtkganajbilnanaaGreat
namespace Go.Proofs.YtkganajbilnanaaGreat
open Go.ChangeShapes Go.WideShapes Go.ChangeAt Go.RowKit
open NumMath
set_option maxRecDepth 20000
set_option maxHeartbeats 8000000 in
theorem rflush_any {L : LogP} {rs : List RecP} {D : DevP} {w : World} {F G : Nat → Prop} {gl : Nat} {pd sv st : Value} (h : RLg L D w F G gl pd sv st) (hk0 : L.fit rs) {N : Nat} (hG : D.good N) (hN : N + 5000 ≤ 100000) (lsn : Nat) (hlsn : lsn < 18446744073709551616) :
    Calls Tryz.prog 56 #[.pointer (some ⟨gl, 0, none⟩), .int .u64 (lsn : Nat)] w fun e w' => e = .returned (.tuple #[]) ∧ RLgPost (flushL L lsn) (flushD L D lsn) F G gl pd w w' := by
  obtain ⟨gp, s0, lv0, X0, rfl, -⟩ := id h.dev
  have hk := hk0.ok
  have hTO := toN_all hk0.recs lsn
  obtain ⟨Av, cv, rfl, hcv, hbv⟩ := h.log.bytes
  obtain ⟨As, cs, rfl, hcs, hat⟩ := h.log.places
  obtain ⟨n, hn⟩ : ∃ n, L.starts.length = n := ⟨_, rfl⟩
  have hcnt := hk.cnt
  rw [hn] at hTO hcnt
  have HN := Lib.hid hn
  have HK := Lib.hid hk
  have H0 := Lib.hid h
  have HAT := Lib.hid hat
  have HTO := Lib.hid hTO
  have hbnd := hk.base
  have hlb := hk.len
  have hsb := hk.strips
  have hsl : L.stream.length < 100000 := by omega
  clear hk h hat hTO hk0 hn hbv hcv hcs hlb hsb
  have K0 : Hid (∀ W, Drew w W → Blk W gl 98 (rlogV L.h (.pointer (some ⟨gp, 0, none⟩)) L.strips L.slot (.slice Av L.stream.length cv) (.slice As L.starts.length cs) L.lasts)) := Lib.hid fun W hW => H0.out.log.blk.below (hW.below _) H0.out.log.blk.lt
  go_enter Tryz.func56, Tryz.ntmps56
  go_wp2_with fail
  go_loopw [5, 4] (fun kv tv wr => ∃ (k : Nat), k ≤ n ∧ kv = .int .i64 (k : Nat) ∧ tv = .int .i64 (toN L lsn k : Nat) ∧ Drew w wr) (fun kv _ _ => n - (intOf kv).toNat)
  case atStart => exact ⟨0, Nat.zero_le _, rfl, rfl, Drew.refl _⟩
  case round =>
    obtain ⟨k, hk, rfl, rfl, hd⟩ := hrel
    have kr := K0.out wr hd
    have c5 : wr.cell? ⟨gl, 5, none⟩ = some (.slice As n cs) := by rw [← HN.out]; exact kr.cell 5
    rcases Nat.lt_or_ge k n with hlt | hge
    · have e1 : decide ((k : Int) < (n : Int)) = true := by rw [decide_eq_true_iff]; omega
      have e2 : (0 : Int) ≤ (k : Int) := by omega
      have e3 : (k : Int) < (n : Int) := by omega
      have hkl : k < L.starts.length := by rw [HN.out]; exact hlt
      obtain ⟨b, o, rfl, hb, hc⟩ := HAT.out k (by unfold placeV; rw [List.length_map]; exact hkl)
      unfold placeV at hc
      rw [List.getElem_map] at hc
      have ca : wr.cell? ⟨b, o + k, none⟩ = some (.int .i64 (L.starts[k] : Nat)) := ((hd.below _).cell (p := ⟨b, o + k, none⟩) hb).trans hc
      have cb : wr.cell? ⟨gl, 3, none⟩ = some (.int .u64 (L.h.base : Nat)) := kr.cell 3
      have hxl : L.starts[k] ≤ L.stream.length := HK.out.inn _ (List.getElem_mem hkl)
      have hgx : L.starts[k]?.getD 0 = L.starts[k] := by rw [List.getElem?_eq_getElem hkl]; rfl
      have YES : Hid (L.h.base + L.starts[k] ≤ lsn → toN L lsn (k + 1) = behindP L.starts L.stream.length k) := Lib.hid fun q => toN_yes (by rw [hgx]; exact q)
      have NO : Hid (¬ L.h.base + L.starts[k] ≤ lsn → toN L lsn (k + 1) = toN L lsn k) := Lib.hid fun q => toN_no (by rw [hgx]; exact q)
      obtain ⟨x, hx⟩ : ∃ x, L.starts[k] = x := ⟨_, rfl⟩
      obtain ⟨bs, hbs⟩ : ∃ bs, L.h.base = bs := ⟨_, rfl⟩
      rw [hx] at ca hxl YES NO
      rw [hbs] at cb YES NO hbnd
      obtain ⟨q, hq⟩ : ∃ q, bs + x = q := ⟨_, rfl⟩
      rw [hq] at YES NO
      have v1 : IntKind.u64.wrap (x : Int) = (x : Int) := by rw [IntKind.wrap_u64]; omega
      have v2 : IntKind.u64.wrap ((bs : Int) + (x : Int)) = (q : Int) := by rw [IntKind.wrap_u64]; omega
      have HD := Lib.hid hd
      have CBE : Hid (∀ W, Drew w W → Calls Tryz.prog 101 #[.pointer (some ⟨gl, 0, none⟩), .int .i64 (k : Nat)] W fun e w' => e = .returned (.int .i64 (behindP L.starts L.stream.length k : Nat)) ∧ W = w') := Lib.hid fun W hW => rbehind_any w.heap.size k (K0.out W hW) (fun j hj => by
        obtain ⟨b', o', e', h1, h2⟩ := HAT.out j hj
        exact ⟨b', o', e', h1, ((hW.below _).cell (p := ⟨b', o' + j, none⟩) h1).trans h2⟩) (by omega)
      clear hgx hxl hx hbs hq hc hkl hd hbnd kr
      by_cases hql : q ≤ lsn
      · have t1 : decide ((q : Int) ≤ (lsn : Int)) = true := by rw [decide_eq_true_iff]; omega
        have hyes := YES.out hql
        generalize behindP L.starts L.stream.length k = be at *
        have HY := Lib.hid hyes
        clear hyes YES NO
        go_upto_region 4 with fail
        go_quiet (fail)
        generalize hwq : World.drewN _ _ = w2
        have hd2 : Drew w w2 := by rw [← hwq]; exact HD.out.more _
        clear hwq
        have cbe := CBE.out w2 hd2
        clear v1 v2 ca cb c5
        go_wp2_with fail
        refine cbe.mono ?_
        rintro e w3 ⟨rfl, rfl⟩
        clear cbe
        go_wp2
        go_roundw
        case rel => exact ⟨k + 1, by omega, by go_num, by rw [HY.out], hd2⟩
        case measure => simp [intOf]; omega
      · have t1 : decide ((q : Int) ≤ (lsn : Int)) = false := by rw [decide_eq_false_iff_not]; omega
        have HY := Lib.hid (NO.out hql)
        clear YES NO CBE
        go_upto_region 4 with fail
        go_quiet (fail)
        generalize hwq : World.drewN _ _ = w2
        have hd2 : Drew w w2 := by rw [← hwq]; exact HD.out.more _
        clear hwq v1 v2 ca cb c5
        go_wp2
        go_roundw
        case rel => exact ⟨k + 1, by omega, by go_num, by rw [HY.out], hd2⟩
        case measure => simp [intOf]; omega
    · obtain rfl : k = n := by omega
      have e1 : decide ((k : Int) < (k : Int)) = false := by rw [decide_eq_false_iff_not]; omega
      have hB2 := hd.below w.heap.size
      have HL2 := Lib.hid (H0.out.below hB2)
      have HB2 := Lib.hid hB2
      have NOP : Hid (toP L lsn ≤ L.lasts → ∀ W, Below w.heap.size w W → RLgPost (flushL L lsn) (flushD L D lsn) F G gl (.pointer (some ⟨gp, 0, none⟩)) w W) := Lib.hid fun q W hW => by
        unfold flushL flushD
        rw [if_pos q, if_pos q]
        exact RLgPost.below H0.out hW
      rw [HTO.out]
      have htl := toP_le HK.out lsn
      obtain ⟨t, ht⟩ : ∃ t, toP L lsn = t := ⟨_, rfl⟩
      rw [ht] at htl ⊢
      have HT := Lib.hid ht
      obtain ⟨w2, hw2⟩ : ∃ w2, wr = w2 := ⟨_, rfl⟩
      subst hw2
      have c9 : wr.cell? ⟨gl, 6, none⟩ = some (.int .i64 (L.lasts : Nat)) := kr.cell 6
      obtain ⟨la, hla⟩ : ∃ la, L.lasts = la := ⟨_, rfl⟩
      rw [hla] at c9
      have HLA := Lib.hid hla
      clear hla ht hB2 K0 HAT HTO kr hd
      by_cases htla : t ≤ la
      · have u1 : decide ((t : Int) ≤ (la : Int)) = true := by rw [decide_eq_true_iff]; omega
        have HN2 := Lib.hid (NOP.out (by rw [HT.out, HLA.out]; exact htla) wr HB2.out)
        clear NOP htl
        go_wp2
        refine bodyPost_ret (results_none rfl _ _ _) rfl ?_
        exact ⟨rfl, HN2.out⟩
      have u1 : decide ((t : Int) ≤ (la : Int)) = false := by rw [decide_eq_false_iff_not]; omega
      obtain ⟨f, hf⟩ : ∃ f, la / 127 = f := ⟨_, rfl⟩
      have hlst := HK.out.lasts
      have hlen := HK.out.len
      have hstr := HK.out.strips
      rw [HLA.out] at hlst
      obtain ⟨ns, hns⟩ : ∃ ns, L.stream.length = ns := ⟨_, rfl⟩
      rw [hns] at hlst hlen htl
      have hnb : ns ≤ 88900 := by omega
      have W2_ : Hid (((la : Int)) / 127 = (f : Int)) := Lib.hid (by omega)
      have W1_ : Hid (((la : Int)).tdiv 127 = (f : Int)) := Lib.hid (by rw [Int.tdiv_eq_ediv_of_nonneg (by omega)]; exact W2_.out)
      have hfb : f ≤ 3000 := by omega
      have hfb2 : f < 9223372036854775808 := by omega
      have W3_ := Lib.hid (wrap6 f hfb2)
      have W4_ := Lib.hid (wrapi f hfb2)
      obtain ⟨Aw, cw, hsv, hcv, hbv⟩ := HL2.out.log.bytes
      rw [hns] at hsv hcv
      injection hsv with hsv1 hsv2 hsv3
      subst hsv1
      subst hsv3
      have c7 : wr.cell? ⟨gl, 4, none⟩ = some (.slice Av ns cv) := by rw [← hns]; exact HL2.out.log.blk.cell 4
      have b1 : (t : Int) ≤ (cv : Int) := by omega
      have b0 : (0 : Int) ≤ (t : Int) := by omega
      have htk : (L.stream.take t).length = t := by rw [List.length_take, hns]; omega
      have clay := reflay_any Av cv (L.stream.take t) wr.heap.size wr (hbv.take t) (Nat.le_refl _) (by rw [htk]; omega)
      have hchk : f < chunks (L.stream.take t) := by unfold chunks; rw [htk]; omega
      have hchk2 : chunks (L.stream.take t) ≤ 3000 := by unfold chunks; rw [htk]; omega
      have hll := layOf_length' (L.stream.take t)
      have HFS : Hid (flushS L (toP L lsn) = (layOf (L.stream.take t)).drop f) := Lib.hid (by rw [HT.out]; unfold flushS; rw [HLA.out, hf])
      rw [htk] at clay
      generalize layOf (L.stream.take t) = rows at *
      generalize chunks (L.stream.take t) = rl at *
      have HNS := Lib.hid hns
      have HF := Lib.hid hf
      clear htk hns hbv hf hlst hlen hstr htl NOP hsv2
      go_wp2_with fail
      refine clay.mono ?_
      rintro e w3 ⟨Ar, cr, Lr, rfl, ho3, hr3, hb3⟩
      rw [hll] at ho3
      obtain ⟨g, rfl, hg1, hg2⟩ := own_pos ho3 (by omega)
      clear clay c7 b1 b0
      rw [hll]
      have hL3 := HL2.out.below hb3
      have c9 : w3.cell? ⟨gl, 6, none⟩ = some (.int .i64 (la : Nat)) := by rw [← HLA.out]; exact hL3.log.blk.cell 6
      have w2_ := W2_.out
      have w1_ := W1_.out
      have w3_ := W3_.out
      have w4_ := W4_.out
      go_wp2_with fail
      clear w1_ w2_ w3_ w4_ c9
      obtain ⟨m, hm⟩ : ∃ m, rl - f = m := ⟨_, rfl⟩
      obtain ⟨p0, hp0⟩ : ∃ p0, 2 + L.h.area * L.strips = p0 := ⟨_, rfl⟩
      have hst7 := HK.out.strips
      have hp0b : p0 ≤ 3000 := by
        have h1 := HK.out.area
        have h2 : L.h.area * L.strips ≤ 1 * 700 := Nat.mul_le_mul (by omega) hst7
        omega
      have hm3 : m ≤ 3000 := by omega
      have hfm : f + m = rl := by omega
      have hrl' : (rows.drop f).length = m := by rw [List.length_drop, hll]; exact hm
      have HFD : Hid (flushD L D lsn = (wrN D (p0 + f) (rows.drop f) m).sync 0) := Lib.hid (by
        unfold flushD
        rw [if_neg (by rw [HT.out, HLA.out]; exact htla), HFS.out, hrl']
        unfold firstP
        rw [hp0, HLA.out, HF.out])
      have HFL : Hid (flushL L lsn = { L with lasts := t }) := Lib.hid (by
        unfold flushL
        rw [if_neg (by rw [HT.out, HLA.out]; exact htla), HT.out])
      have HL3 := Lib.hid hL3
      have hd3 := hL3.dev
      have HO3 := Lib.hid (And.intro ho3 hr3)
      have HB3 : Hid (Below w.heap.size w w3) := Lib.hid (HB2.out.trans (hb3.mono HB2.out.size))
      have HF2 := Lib.hid HL2.out.hiF
      have HP0 := Lib.hid hp0
      have HRL := Lib.hid hfm
      clear hL3 ho3 hr3 hb3 hm hll hp0 hchk u1 hst7 hfm
      go_loopw [7] (fun iv wr => ∃ (j : Nat), j ≤ m ∧ iv = .int .i64 ((f + j : Nat) : Int) ∧ IsRDev (wrN D (p0 + f) (rows.drop f) j) wr (grow F w3 wr) (.pointer (some ⟨gp, 0, none⟩)) ∧ Only F w3 wr) (fun iv _ => rl - (intOf iv).toNat)
      case atStart => exact ⟨0, Nat.zero_le _, rfl, hd3.mono fun b q => .inl q, Only.refl _ _⟩
      case round =>
        clear hd3
        obtain ⟨j, hj, rfl, hd, hO⟩ := hrel
        rename World => wr
        have nF : ¬ F gl := fun q => HL3.out.dis gl q HL3.out.log.inG
        have hFr : ∀ b, grow F w3 wr b → b < wr.heap.size := fun b q => q.elim (fun z => Nat.lt_of_lt_of_le (HL3.out.hiF b z) hO.size) fun z => z.2
        have kr := HL3.out.log.blk.only hO nF
        have hgood := wrN_good hG (p0 + f) (rows.drop f) j
        have hfm := HRL.out
        rcases Nat.lt_or_ge j m with hlt | hge
        · have hjr : f + j < rows.length := by rw [List.length_drop] at hrl'; omega
          obtain ⟨ho3, hr3⟩ := HO3.out
          have hjL : f + j < Lr.length := by rw [hr3.1]; exact hjr
          obtain ⟨⟨Ab, cb, hvb⟩, hob, hsb⟩ := hr3.2 (f + j) _ _ (List.getElem?_eq_getElem hjL) (List.getElem?_eq_getElem hjr)
          rw [hvb] at hob
          have hgF : ∀ W, Only (grow F w3 wr) wr W → W.cell? ⟨g, f + j, none⟩ = some (.slice Ab rows[f + j].length cb) := fun W hW => by
            have hc3 : w3.cell? ⟨g, f + j, none⟩ = some (.slice Ab rows[f + j].length cb) := by rw [ho3.cellAt (f + j) (by omega), List.getElem?_eq_getElem hjL, hvb]
            have hcr := (hO.cell (p := ⟨g, f + j, none⟩) hg2 fun q => by have := HF2.out g q; omega).trans hc3
            refine (hW.cell (p := ⟨g, f + j, none⟩) (Nat.lt_of_lt_of_le hg2 hO.size) fun q => ?_).trans hcr
            rcases q with q | q
            · have := HF2.out g q; omega
            · have q1 : w3.heap.size ≤ g := q.1
              omega
          have hout : BytesIn w3 (fun b => ¬ F b) Ab rows[f + j] := out_own hob hsb HF2.out
          have hidx : (rows.drop f)[j]?.getD [] = rows[f + j] := by rw [List.getElem?_drop, List.getElem?_eq_getElem hjr]; rfl
          have hnx : wrN D (p0 + f) (rows.drop f) (j + 1) = ((wrN D (p0 + f) (rows.drop f) j).write 0 ((p0 + f + j : Nat) : Int) rows[f + j]).2 := by
            rw [← hidx]
            rfl
          generalize rows[f + j] = lb at *
          obtain ⟨i, hi⟩ : ∃ i, f + j = i := ⟨_, rfl⟩
          obtain ⟨q, hq⟩ : ∃ q, p0 + f + j = q := ⟨_, rfl⟩
          have V2 : Hid (IntKind.i64.wrap ((p0 : Int) + (i : Int)) = (q : Int)) := Lib.hid (by rw [IntKind.wrap_i64]; omega)
          have e1 : decide ((i : Int) < (rl : Int)) = true := by rw [decide_eq_true_iff]; omega
          have e2 : (0 : Int) ≤ (i : Int) := by omega
          have e3 : (i : Int) < (rl : Int) := by omega
          have HI : Hid (f + (j + 1) = i + 1) := Lib.hid (by omega)
          have hirl : i < rl := by omega
          rw [hi] at hgF ⊢
          rw [hq] at hnx
          obtain ⟨q1, hq1⟩ : ∃ q1, p0 + f = q1 := ⟨_, rfl⟩
          rw [hq1] at hgood hnx hd
          rw [hq1]
          have WR : Hid (∀ W, Below wr.heap.size wr W → Calls Tryz.prog 88 #[.pointer (some ⟨gp, 0, none⟩), .int .u8 0, .int .i64 (q : Int), .slice Ab lb.length cb] W fun e w' => e = .returned (.int .i64 (((wrN D q1 (rows.drop f) j).write 0 (q : Int) lb).1 : Nat)) ∧ RPost ((wrN D q1 (rows.drop f) j).write 0 (q : Int) lb).2 (grow F w3 wr) (.pointer (some ⟨gp, 0, none⟩)) W w') := Lib.hid fun W hW =>
            rwrite_any (hd.below hW) (fun b z => Nat.lt_of_lt_of_le (hFr b z) hW.size) hgood (by omega) 0 (by omega) (q : Int) Ab cb lb (out_below (out_post hout hO) hW)
          have FI : Hid (∀ W, Below wr.heap.size wr W → Calls Tryz.prog 34 #[.pointer (some ⟨gl, 0, none⟩), .int .i64 (L.h.area : Nat)] W fun e w' => e = .returned (.int .i64 (p0 : Int)) ∧ W = w') := Lib.hid fun W hW => by
            have := rfirst_any (kr.below hW kr.lt) (by have := HK.out.strips; omega) L.h.area HK.out.area
            rw [HP0.out] at this
            exact this
          have bd := below_drew0 wr
          have hnl : lb.length = lb.length := rfl
          obtain ⟨nl, hnl⟩ : ∃ nl, lb.length = nl := ⟨_, rfl⟩
          have CELLS : Hid (∀ W', Only (grow F w3 wr) wr W' → W'.cell? ⟨gl, 2, none⟩ = some (.int .i64 (L.h.area : Nat)) ∧ W'.cell? ⟨gl, 0, none⟩ = some (.pointer (some ⟨gp, 0, none⟩)) ∧ W'.cell? ⟨g, i, none⟩ = some (.slice Ab nl cb)) := Lib.hid fun W' ho => by
            have k := kr.only ho fun z => z.elim nF fun y => by have := HL3.out.log.blk.lt; omega
            have := hgF W' ho
            rw [hnl] at this
            exact ⟨k.cell 2, k.cell 0, this⟩
          have x0 := CELLS.out wr.drew (Only.of_below bd _)
          have cf := FI.out wr.drew bd
          have cw := WR.out wr.drew bd
          have NX : Hid (∀ W, RPost ((wrN D q1 (rows.drop f) j).write 0 (q : Int) lb).2 (grow F w3 wr) (.pointer (some ⟨gp, 0, none⟩)) wr.drew W → IsRDev (wrN D q1 (rows.drop f) (j + 1)) W (grow F w3 W) (.pointer (some ⟨gp, 0, none⟩)) ∧ Only F w3 W) := Lib.hid fun W hp => by
            rw [hnx]
            exact ⟨hp.1.mono (grow_grow hO.size hp.2.size), (hO.trans (Only.of_below bd F) fun b z => .inl z).trans hp.2 fun b z => z.imp id fun y => y.1⟩
          rw [hnl] at cw
          generalize L.h.area = ar at *
          clear hnx hgood hout hidx hob hsb hvb hjL ho3 hr3 hq1 hq hd hO hFr WR FI hjr hnl kr hgF hi hfm
          go_upto_region 11 with fail
          have v2 := V2.out
          go_region_held3 (fun W' => W'.cell? ⟨gl, 2, none⟩ = some (.int .i64 (ar : Nat)) ∧ W'.cell? ⟨gl, 0, none⟩ = some (.pointer (some ⟨gp, 0, none⟩)) ∧ W'.cell? ⟨g, i, none⟩ = some (.slice Ab nl cb))
            (first | with_reducible (exact x0) | with_reducible (exact x2) | fail)
            (first
              | ((with_reducible refine cf.mono ?_); rintro e w4 ⟨rfl, rfl⟩)
              | ((with_reducible refine cw.mono ?_); rintro e w5 ⟨rfl, hp5⟩; have x2 := CELLS.out w5 ((Only.of_below bd _).trans hp5.2 fun b z => .inl z); have H5 := Lib.hid (NX.out w5 hp5))
              | fail)
          all_goals
            clear v2 hp5 cw cf x0 NX CELLS bd
            go_wp2
            go_roundw
            case rel => exact ⟨j + 1, by omega, by rw [HI.out]; go_num, H5.out.1, H5.out.2⟩
            case measure => simp [intOf]; omega
        · obtain rfl : j = m := by omega
          rw [hfm]
          have e1 : decide ((rl : Int) < (rl : Int)) = false := by rw [decide_eq_false_iff_not]; omega
          have c4 : wr.cell? ⟨gl, 0, none⟩ = some (.pointer (some ⟨gp, 0, none⟩)) := kr.cell 0
          have hsy := rsync_any hd hFr hgood (by omega) 0 (by omega)
          rw [← HFD.out] at hsy
          have FIN : Hid (∀ W, RPost (flushD L D lsn) (grow F w3 wr) (.pointer (some ⟨gp, 0, none⟩)) wr W → W.cell? ⟨gl, 6, none⟩ = some (.int .i64 (la : Nat)) ∧ W.frozen? ⟨gl, 6, none⟩ = false ∧ RLgPost (flushL L lsn) (flushD L D lsn) F G gl (.pointer (some ⟨gp, 0, none⟩)) w (W.setCell ⟨gl, 6, none⟩ (.int .i64 (t : Nat)))) := Lib.hid fun W hp => by
            have hp3 : RPost (flushD L D lsn) F (.pointer (some ⟨gp, 0, none⟩)) w3 W := ⟨hp.1.mono (grow_grow hO.size hp.2.size), hO.trans hp.2 fun b z => z.imp id fun y => y.1⟩
            have hLW := HL3.out.devPost hp3
            have kW := hLW.log.blk
            refine ⟨by rw [← HLA.out]; exact kW.cell 6, kW.frozen 6, ?_⟩
            refine RLgPost.lead HB3.out ?_
            refine RLgPost.trans (F' := grow F w3 W) (G' := G) (fun b z => z) (fun b z => .inl z) (hp3.2.mono fun b z => .inl (.inl z)) ?_
            rw [HFL.out]
            exact RLgPost.box hLW ((Only.refl (fun b => b = gl) W).setCell (p := ⟨gl, 6, none⟩) (.inl rfl) _) (kW.set_ 6 _) rfl rfl
          clear hd hO hFr hgood kr hfm
          go_wp2_with fail
          refine hsy.mono ?_
          rintro e w4 ⟨rfl, hp⟩
          obtain ⟨c9, z9, hf9⟩ := FIN.out w4 hp
          have H := Lib.hid hf9
          clear hp hf9 FIN hsy
          go_wp2
          go_end0
          exact ⟨rfl, H.out⟩
set_option maxHeartbeats 8000000 in
theorem rmark_any {L : LogP} {D : DevP} {w : World} {F G : Nat → Prop} {gl : Nat} {pd sv st : Value} (h : RLg L D w F G gl pd sv st) {rs : List RecP} (hk0 : L.fit rs) {N : Nat} (hG : D.good N) (hN : N + 6000 ≤ 100000) (lsn : Nat) (hlsn : lsn < 18446744073709551616) :
    Calls Tryz.prog 58 #[.pointer (some ⟨gl, 0, none⟩), .int .u64 (lsn : Nat)] w fun e w' => e = .returned (.tuple #[]) ∧ RLgPost (markL L lsn) (markD L D lsn) F G gl pd w w' := by
  have hk := hk0.ok
  have cfl : Calls Tryz.prog 56 #[.pointer (some ⟨gl, 0, none⟩), .int .u64 18446744073709551615] w fun e w' => e = .returned (.tuple #[]) ∧ RLgPost (flushL L topN) (flushD L D topN) F G gl pd w w' := rflush_any h hk0 hG (by omega) topN (by decide)
  clear hk0
  have hgd := flushD_good hk hG topN
  have hok := flushL_ok hk topN
  have hM : markM L lsn = { flushL L topN with h := { (flushL L topN).h with check := lsn } } := rfl
  have hL : markL L lsn = sayL (markM L lsn) := rfl
  have hD : markD L D lsn = sayD (markM L lsn) (flushD L D topN) := rfl
  rw [hL, hD]
  generalize markM L lsn = LM at *
  generalize flushL L topN = L1 at *
  generalize flushD L D topN = D1 at *
  have HM := Lib.hid hM
  clear hL hD hk hG h hM
  go_enter Tryz.func58, Tryz.ntmps58
  go_wp2_with fail
  refine cfl.mono ?_
  rintro e w2 ⟨rfl, F1, G1, sv1, st1, hL1, hF1, hG1, hO1⟩
  have k1 := hL1.log.blk
  have c2 : w2.cell? ⟨gl, 7, none⟩ = some (.int .u64 (L1.h.check : Nat)) := k1.cell 7
  have z2 : w2.frozen? ⟨gl, 7, none⟩ = false := k1.frozen 7
  have oW : Only (fun b => b = gl) w2 (w2.setCell ⟨gl, 7, none⟩ (.int .u64 (lsn : Nat))) := (Only.refl (fun b => b = gl) w2).setCell (p := ⟨gl, 7, none⟩) (.inl rfl) _
  have hLW : RLg LM D1 (w2.setCell ⟨gl, 7, none⟩ (.int .u64 (lsn : Nat))) F1 G1 gl pd sv1 st1 := by
    rw [HM.out]
    exact hL1.box oW (k1.set_ 7 _) rfl rfl
  have hfit : LM.h.Fits := by rw [HM.out]; exact ⟨hok.fits.1, hok.fits.2.1, hlsn, hok.fits.2.2.2⟩
  have hslot : LM.slot ≤ 1 := by rw [HM.out]; exact hok.slot
  have HLW := Lib.hid hLW
  have FIN : Hid (∀ W, RLgPost (sayL LM) (sayD LM D1) F1 G1 gl pd (w2.setCell ⟨gl, 7, none⟩ (.int .u64 (lsn : Nat))) W → RLgPost (sayL LM) (sayD LM D1) F G gl pd w W) := Lib.hid fun W hp => by
    refine RLgPost.trans hF1 hG1 hO1 ?_
    refine RLgPost.trans (F' := F1) (G' := G1) (fun b q => .inl q) (fun b q => .inl q) (oW.mono fun b e => .inl (.inr (by rw [e]; exact hL1.log.inG))) hp
  clear cfl hL1 hF1 hG1 hO1 k1 oW hLW
  go_upto_region 2 with fail
  generalize World.setCell _ _ _ = W at *
  have csy := rhead_any HLW.out hfit hslot hgd (by omega)
  go_wp2_with fail
  refine csy.mono ?_
  rintro e w3 ⟨rfl, hp⟩
  have H := Lib.hid (FIN.out w3 hp)
  clear hp FIN csy HLW
  go_wp2
  go_end0
  exact ⟨rfl, H.out⟩
theorem RLg.clear {L L' : LogP} {D : DevP} {w w' : World} {F G : Nat → Prop} {gl : Nat} {pd sv st : Value} (h : RLg L D w F G gl pd sv st) (ho : Only (fun b => b = gl) w w') (hb : Blk w' gl 98 (rlogV L'.h pd L'.strips L'.slot (.slice none 0 0) (.slice none 0 0) L'.lasts)) (h1 : L'.stream = []) (h2 : L'.starts = []) : RLg L' D w' F G gl pd (.slice none 0 0) (.slice none 0 0) :=
  ⟨h.dev.only ho fun b q e => by subst e; exact h.dis b q h.log.inG, ⟨hb, h.log.inG, by rw [h1]; exact Strm.nil _ _, by rw [h2]; exact World.ownsRow_nil _ _ _ _, fun b e => by cases e⟩, h.dis, fun b q => Nat.lt_of_lt_of_le (h.hiF b q) ho.size, fun b q => Nat.lt_of_lt_of_le (h.hiG b q) ho.size⟩
set_option maxHeartbeats 8000000 in
theorem rrenew_any {L : LogP} {D : DevP} {w : World} {F G : Nat → Prop} {gl : Nat} {pd sv st : Value} (h : RLg L D w F G gl pd sv st) {rs : List RecP} (hk0 : L.fit rs) {N : Nat} (hG : D.good N) (hN : N + 6000 ≤ 100000) :
    Calls Tryz.prog 60 #[.pointer (some ⟨gl, 0, none⟩)] w fun e w' => e = .returned (.tuple #[]) ∧ RLgPost (renewL L) (renewD L D) F G gl pd w w' := by
  obtain ⟨gp, s0, lv0, X0, rfl, -⟩ := id h.dev
  have hk := hk0.ok
  have cfl : Calls Tryz.prog 56 #[.pointer (some ⟨gl, 0, none⟩), .int .u64 18446744073709551615] w fun e w' => e = .returned (.tuple #[]) ∧ RLgPost (flushL L topN) (flushD L D topN) F G gl (.pointer (some ⟨gp, 0, none⟩)) w w' := rflush_any h hk0 hG (by omega) topN (by decide)
  clear hk0
  have hgd := flushD_good hk hG topN
  have hok := flushL_ok hk topN
  have e1 := flushL_h L topN
  have e2 := flushL_slot L topN
  have e3 := flushL_strips L topN
  have e4 := flushL_stream L topN
  have hL : renewL L = sayL (renewM L) := rfl
  have hD : renewD L D = sayD (renewM L) (makeP (flushD L D topN) (firstP L (1 - L.h.area)) L.strips []) := rfl
  have hM : renewM L = ⟨⟨L.h.stamp, L.h.base + L.stream.length, 0, 1 - L.h.area⟩, L.strips, L.slot, [], [], 0⟩ := rfl
  have hP : firstP L (1 - L.h.area) = 2 + (1 - L.h.area) * L.strips := rfl
  rw [hL, hD]
  generalize flushL L topN = L1 at *
  generalize flushD L D topN = D1 at *
  generalize renewM L = LM at *
  generalize firstP L (1 - L.h.area) = p0 at *
  have hst := hk.strips
  have har := hk.area
  have hbase := hk.base
  rw [← e1, ← e2, ← e3, ← e4] at hM
  rw [← e3, ← e1] at hP
  rw [← e1, ← e4] at hbase
  rw [← e1] at har
  rw [← e3] at hst
  rw [← e3]
  clear hL hD h hG hk e1 e2 e3 e4
  obtain ⟨⟨stamp, base, check, area⟩, strips, slot, stream, starts, lasts⟩ := L1
  simp only at *
  obtain ⟨na, hna⟩ : ∃ na, 1 - area = na := ⟨_, rfl⟩
  obtain ⟨n, hn⟩ : ∃ n, stream.length = n := ⟨_, rfl⟩
  rw [hna] at hM hP
  rw [hn] at hM hbase
  obtain ⟨b2, hb2⟩ : ∃ b2, base + n = b2 := ⟨_, rfl⟩
  rw [hb2] at hM hbase
  have HB2 := Lib.hid hb2
  have hp0 : p0 ≤ 3000 := by
    have h2 : na * strips ≤ 1 * 700 := Nat.mul_le_mul (by omega) hst
    omega
  have V1 : Hid (IntKind.i64.wrap (1 - (area : Int)) = (na : Int)) := Lib.hid (by rw [IntKind.wrap_i64]; omega)
  have hna2 : na < 2 := by omega
  have hna3 : na < 256 := by omega
  have HM := Lib.hid hM
  have HN := Lib.hid hn
  have HOK := Lib.hid hok
  have hmg := makeP_good1 hgd p0 strips hst []
  clear hM hna hn hok hb2
  go_enter Tryz.func60, Tryz.ntmps60
  go_wp2_with fail
  refine cfl.mono ?_
  rintro e w2 ⟨rfl, F1, G1, sv1, st1, hL1, hF1, hG1, hO1⟩
  have k1 := hL1.log.blk
  have HL1 := Lib.hid hL1
  have nF : ¬ F1 gl := fun q => hL1.dis gl q hL1.log.inG
  have bd := below_drew0 w2
  have FI : Calls Tryz.prog 34 #[.pointer (some ⟨gl, 0, none⟩), .int .i64 (na : Nat)] w2.drew fun e w' => e = .returned (.int .i64 (p0 : Int)) ∧ w2.drew = w' := by
    have := rfirst_any (k1.below bd k1.lt) (by exact Nat.le_trans hst (by decide)) na hna2
    rw [show 2 + na * strips = p0 from hP.symm] at this
    exact this
  have cmk : Calls Tryz.prog 37 #[.pointer (some ⟨gl, 0, none⟩), .int .i64 (p0 : Nat), .int .i64 (strips : Nat), .slice none 0 0] w2.drew fun e w' => e = .returned (.tuple #[]) ∧ RPost (makeP D1 p0 strips []) F1 (.pointer (some ⟨gp, 0, none⟩)) w2.drew w' := rlay_any (hL1.drew).dev (hL1.drew).hiF hgd (hL1.drew).log.blk nF p0 strips (by omega) (by omega) (by omega) none 0 [] [] (fun j hj => absurd hj (by simp)) (Outs.nil _ _) (by simp) (fun l hl => by cases hl)
  have CELLS : Hid (∀ W', Only F1 w2 W' → W'.cell? ⟨gl, 2, none⟩ = some (.int .i64 (area : Nat)) ∧ W'.cell? ⟨gl, 1, none⟩ = some (.int .i64 (strips : Nat))) := Lib.hid fun W' ho => by
    have k := k1.only ho nF
    exact ⟨k.cell 2, k.cell 1⟩
  have x0 := CELLS.out w2.drew (Only.of_below bd _)
  have FIN : Hid (∀ w5 w6 w7, RPost (makeP D1 p0 strips []) F1 (.pointer (some ⟨gp, 0, none⟩)) w2.drew w5 → Only (fun b => b = gl) w5 w6 → RLgPost (sayL LM) (sayD LM (makeP D1 p0 strips [])) (grow F1 w2.drew w5) G1 gl (.pointer (some ⟨gp, 0, none⟩)) w6 w7 → RLgPost (sayL LM) (sayD LM (makeP D1 p0 strips [])) F G gl (.pointer (some ⟨gp, 0, none⟩)) w w7) := Lib.hid fun w5 w6 w7 h1 h2 h3 => by
    refine RLgPost.trans hF1 hG1 hO1 ?_
    refine RLgPost.lead bd ?_
    refine RLgPost.trans (F' := grow F1 w2.drew w5) (G' := G1) (fun b q => q) (fun b q => .inl q) (h1.2.mono fun b q => .inl (.inl q)) ?_
    exact RLgPost.trans (F' := grow F1 w2.drew w5) (G' := G1) (fun b q => .inl q) (fun b q => .inl q) (h2.mono fun b e => .inl (.inr (by rw [e]; exact HL1.out.log.inG))) h3
  have BD := Lib.hid bd
  clear cfl hL1 hF1 hG1 hO1 k1 hP hp0 hna2 har bd
  go_upto_region 1 with fail
  go_cut [] (fun wx => RPost (makeP D1 p0 strips []) F1 (.pointer (some ⟨gp, 0, none⟩)) w2.drew wx)
  case first =>
    have v1 := V1.out
    go_wp2_with fail
    go_region_held3 (fun W' => W'.cell? ⟨gl, 2, none⟩ = some (.int .i64 (area : Nat)) ∧ W'.cell? ⟨gl, 1, none⟩ = some (.int .i64 (strips : Nat)))
      (first | with_reducible (exact x0) | with_reducible (exact x2) | fail)
      (first
        | ((with_reducible refine FI.mono ?_); rintro e w4 ⟨rfl, rfl⟩)
        | ((with_reducible refine cmk.mono ?_); rintro e w5 ⟨rfl, hp5⟩; have x2 := CELLS.out w5 ((Only.of_below BD.out _).trans hp5.2 fun b z => .inl z); have H5 := Lib.hid hp5)
        | fail)
    all_goals
      clear v1
      go_wp2
      go_meet
      case rel => exact H5.out
  case rest =>
    rename World => w5
    clear x0 CELLS cmk FI
    have hL5 := HL1.out.drew.devPost hcut
    have k5 := hL5.log.blk
    obtain ⟨Av, cv, rfl, hcv, -⟩ := hL5.log.bytes
    have cend := rend_any k5 (by rw [HN.out, HB2.out]; exact hbase)
    rw [show stream.length = n from HN.out, show base + n = b2 from HB2.out] at cend
    clear k5 hcv
    go_wp2_with fail
    refine cend.mono ?_
    rintro e w6 ⟨rfl, hd6⟩
    have hB6 := hd6.below w5.heap.size
    have hL6 := hL5.below hB6
    have k6 := hL6.log.blk
    have c1 : w6.cell? ⟨gl, 3, none⟩ = some (.int .u64 (base : Nat)) := k6.cell 3
    have c2 : w6.cell? ⟨gl, 7, none⟩ = some (.int .u64 (check : Nat)) := k6.cell 7
    have c3 : w6.cell? ⟨gl, 2, none⟩ = some (.int .i64 (area : Nat)) := k6.cell 2
    have c7 : w6.cell? ⟨gl, 4, none⟩ = some (.slice Av n cv) := by rw [← HN.out]; exact k6.cell 4
    have c8 : w6.cell? ⟨gl, 5, none⟩ = some st1 := k6.cell 5
    have c9 : w6.cell? ⟨gl, 6, none⟩ = some (.int .i64 (lasts : Nat)) := k6.cell 6
    have z1 : w6.frozen? ⟨gl, 3, none⟩ = false := k6.frozen 3
    have z2 : w6.frozen? ⟨gl, 7, none⟩ = false := k6.frozen 7
    have z3 : w6.frozen? ⟨gl, 2, none⟩ = false := k6.frozen 2
    have z7 : w6.frozen? ⟨gl, 4, none⟩ = false := k6.frozen 4
    have z8 : w6.frozen? ⟨gl, 5, none⟩ = false := k6.frozen 5
    have z9 : w6.frozen? ⟨gl, 6, none⟩ = false := k6.frozen 6
    obtain ⟨W, hW⟩ : ∃ W, (((((w6.setCell ⟨gl, 3, none⟩ (.int .u64 (b2 : Nat))).setCell ⟨gl, 2, none⟩ (.int .i64 (na : Nat))).setCell ⟨gl, 4, none⟩ (.slice none 0 0)).setCell ⟨gl, 5, none⟩ (.slice none 0 0)).setCell ⟨gl, 6, none⟩ (.int .i64 0)).setCell ⟨gl, 7, none⟩ (.int .u64 0) = W := ⟨_, rfl⟩
    have kW : Blk W gl 98 (rlogV LM.h (.pointer (some ⟨gp, 0, none⟩)) LM.strips LM.slot (.slice none 0 0) (.slice none 0 0) LM.lasts) := by
      rw [HM.out, ← hW]
      exact (((((k6.set_ 3 _).set_ 2 _).set_ 4 _).set_ 5 _).set_ 6 _).set_ 7 _
    have oW : Only (fun b => b = gl) w6 W := by
      rw [← hW]
      exact ((((((Only.refl (fun b => b = gl) w6).setCell (p := ⟨gl, 3, none⟩) (.inl rfl) _).setCell (p := ⟨gl, 2, none⟩) (.inl rfl) _).setCell (p := ⟨gl, 4, none⟩) (.inl rfl) _).setCell (p := ⟨gl, 5, none⟩) (.inl rfl) _).setCell (p := ⟨gl, 6, none⟩) (.inl rfl) _).setCell (p := ⟨gl, 7, none⟩) (.inl rfl) _
    have hLW := RLg.clear hL6 oW kW (by rw [HM.out]) (by rw [HM.out])
    have HLW := Lib.hid hLW
    have HO5 : Hid (Only (fun b => b = gl) w5 W) := Lib.hid ((Only.of_below hB6 (fun b => b = gl)).trans oW fun b e => .inl e)
    have HC := Lib.hid hcut
    have hfit : LM.h.Fits := by
      rw [HM.out]
      exact ⟨HOK.out.fits.1, hbase, (by decide : (0 : Nat) < 18446744073709551616), hna3⟩
    have hslot : LM.slot ≤ 1 := by rw [HM.out]; exact HOK.out.slot
    have csy := rhead_any HLW.out hfit hslot hmg (by omega)
    have v1 := V1.out
    have HWq := Lib.hid hW
    clear cend hd6 hB6 hL6 k6 kW oW hLW hcut hL5 hW hfit hslot hbase
    go_upto_region 8 with fail
    rw [show _ = W from HWq.out]
    clear v1
    go_wp2_with fail
    refine csy.mono ?_
    rintro e w7 ⟨rfl, hp⟩
    have H := Lib.hid (FIN.out _ _ _ HC.out HO5.out hp)
    clear hp FIN csy HLW
    go_wp2
    go_end0
    exact ⟨rfl, H.out⟩
end Go.Proofs.YtkganajbilnanaaGreat
