/- rec's document: what Decode reads of bytes. Conditions: none; no program in sight. -/
import Derived.Test.YtkganajbilnanaaGreatYRecFe
set_option linter.unusedVariables false
set_option linter.unusedSimpArgs false
namespace Go.Proofs.YtkganajbilnanaaGreat
open NumMath
def partL (l : List Nat) (p n : Nat) : List Nat := (List.range n).map fun i => l.getD (p + i) 0
def numB (l : List Nat) (p n : Nat) : Nat := getL (partL l p n)
theorem partL_length (l : List Nat) (p n : Nat) : (partL l p n).length = n := by simp [partL]
theorem partL_succ (l : List Nat) (p n : Nat) : partL l p (n + 1) = partL l p n ++ [l.getD (p + n) 0] := by simp [partL, List.range_succ]
theorem getD_small {l : List Nat} (h : Small l) (i : Nat) : l.getD i 0 < 256 := by
  rw [List.getD_eq_getElem?_getD]
  rcases hi : l[i]? with _ | x
  · decide
  · exact h x (List.mem_of_getElem? hi)
theorem partL_small {l : List Nat} (h : Small l) (p n : Nat) : Small (partL l p n) := fun x hx => by
  obtain ⟨i, -, rfl⟩ := List.mem_map.1 hx
  exact getD_small h _
theorem numB_lt {l : List Nat} (h : Small l) (p n : Nat) : numB l p n < 256 ^ n := by
  have := getL_lt (partL l p n) (partL_small h p n)
  rwa [partL_length] at this
theorem partL_eq {l m rest : List Nat} {p : Nat} (h : l.drop p = m ++ rest) : partL l p m.length = m := by
  apply List.ext_getElem (by rw [partL_length])
  intro i h1 h2
  simp only [partL, List.getElem_map, List.getElem_range]
  rw [List.getD_eq_getElem?_getD, ← List.getElem?_drop, h, List.getElem?_append_left h2, List.getElem?_eq_getElem h2]
  rfl
theorem part_at {l m rest : List Nat} {p n : Nat} (h : l.drop p = m ++ rest) (hn : m.length = n) : partL l p n = m ∧ l.drop (p + n) = rest := by
  subst hn
  exact ⟨partL_eq h, by rw [← List.drop_drop, h, List.drop_left]⟩
theorem num_at {l rest : List Nat} {p n v : Nat} (h : l.drop p = putF n v ++ rest) (hv : v < 256 ^ n) : numB l p n = v ∧ l.drop (p + n) = rest := by
  obtain ⟨h1, h2⟩ := part_at h (putF_length n v)
  exact ⟨by rw [numB, h1, getL_put, Nat.mod_eq_of_lt hv], h2⟩
def txQ (l : List Nat) (p : Nat) : TxP := ⟨numB l p 4, numB l (p + 4) 8, numB l (p + 12) 8, numB l (p + 20) 1⟩
def dirQ (l : List Nat) (p : Nat) : DirP := ⟨numB l p 4, numB l (p + 4) 8⟩
def txsQ (l : List Nat) (k : Nat) : List TxP := (List.range k).map fun i => txQ l (28 + 21 * i)
def dirsQ (l : List Nat) (p k : Nat) : List DirP := (List.range k).map fun i => dirQ l (p + 12 * i)
def kQ (l : List Nat) : Nat := numB l 34 1
def mQ (l : List Nat) : Nat := numB l (35 + kQ l) 1
def chgQ (l : List Nat) : ChgP := ⟨numB l 27 4, numB l 31 2, numB l 33 1 % 2 == 1, numB l 33 1 / 2 % 2 == 1, partL l 35 (kQ l), partL l (36 + kQ l) (mQ l)⟩
def ntQ (l : List Nat) : Nat := numB l 27 1
def npQ (l : List Nat) : Nat := numB l (28 + 21 * ntQ l) 1
def parseQ (l : List Nat) : RecP := ⟨numB l 6 1, numB l 7 4, numB l 11 8, numB l 19 8, if chgs (numB l 6 1) = true then chgQ l else chgZ0,
  if numB l 6 1 = 8 then txsQ l (ntQ l) else [], if numB l 6 1 = 8 then dirsQ l (29 + 21 * ntQ l) (npQ l) else []⟩
theorem txQ_fits {l : List Nat} (h : Small l) (p : Nat) : (txQ l p).Fits := ⟨numB_lt h p 4, numB_lt h _ 8, numB_lt h _ 8, numB_lt h _ 1⟩
theorem dirQ_fits {l : List Nat} (h : Small l) (p : Nat) : (dirQ l p).Fits := ⟨numB_lt h p 4, numB_lt h _ 8⟩
theorem txsQ_succ (l : List Nat) (k : Nat) : txsQ l (k + 1) = txsQ l k ++ [txQ l (28 + 21 * k)] := by simp [txsQ, List.range_succ]
theorem dirsQ_succ (l : List Nat) (p k : Nat) : dirsQ l p (k + 1) = dirsQ l p k ++ [dirQ l (p + 12 * k)] := by simp [dirsQ, List.range_succ]
theorem txsQ_length (l : List Nat) (k : Nat) : (txsQ l k).length = k := by simp [txsQ]
theorem dirsQ_length (l : List Nat) (p k : Nat) : (dirsQ l p k).length = k := by simp [dirsQ]
theorem chgQ_fits {l : List Nat} (h : Small l) : (chgQ l).Fits := ⟨numB_lt h _ 4, numB_lt h _ 2, partL_small h _ _, partL_small h _ _⟩
theorem chgZ0_fits : chgZ0.Fits := ⟨by decide, by decide, (fun x hx => by cases hx), (fun x hx => by cases hx)⟩
theorem parseQ_fits {l : List Nat} (h : Small l) : (parseQ l).Fits := by
  refine ⟨numB_lt h _ 1, numB_lt h _ 4, numB_lt h _ 8, numB_lt h _ 8, ?_, ?_, ?_⟩
  · unfold parseQ
    split
    · exact chgQ_fits h
    · exact chgZ0_fits
  · intro x hx
    unfold parseQ at hx
    simp only at hx
    split at hx
    · obtain ⟨i, -, rfl⟩ := List.mem_map.1 hx
      exact txQ_fits h _
    · cases hx
  · intro x hx
    unfold parseQ at hx
    simp only at hx
    split at hx
    · obtain ⟨i, -, rfl⟩ := List.mem_map.1 hx
      exact dirQ_fits h _
    · cases hx
theorem tx_at {l rest : List Nat} {p : Nat} {x : TxP} (h : l.drop p = txL x ++ rest) (hf : x.Fits) : txQ l p = x ∧ l.drop (p + 21) = rest := by
  unfold txL at h
  simp only [List.append_assoc] at h
  obtain ⟨f0, f1, f2, f3⟩ := hf
  obtain ⟨a0, h⟩ := num_at h f0
  obtain ⟨a1, h⟩ := num_at h f1
  obtain ⟨a2, h⟩ := num_at h f2
  obtain ⟨a3, h⟩ := num_at h f3
  refine ⟨?_, h⟩
  unfold txQ
  rw [a0, a1, a2, a3]
theorem dir_at {l rest : List Nat} {p : Nat} {x : DirP} (h : l.drop p = dirL x ++ rest) (hf : x.Fits) : dirQ l p = x ∧ l.drop (p + 12) = rest := by
  unfold dirL at h
  simp only [List.append_assoc] at h
  obtain ⟨f0, f1⟩ := hf
  obtain ⟨a0, h⟩ := num_at h f0
  obtain ⟨a1, h⟩ := num_at h f1
  refine ⟨?_, h⟩
  unfold dirQ
  rw [a0, a1]
theorem txs_at {l : List Nat} : ∀ (t : List TxP) (p : Nat) (rest : List Nat), l.drop p = t.flatMap txL ++ rest → (∀ x ∈ t, x.Fits) → ((List.range t.length).map fun i => txQ l (p + 21 * i)) = t ∧ l.drop (p + 21 * t.length) = rest
  | [], p, rest, h, _ => ⟨rfl, h⟩
  | x :: t, p, rest, h, hf => by
    rw [List.flatMap_cons, List.append_assoc] at h
    obtain ⟨a, h⟩ := tx_at h (hf x (List.mem_cons_self ..))
    obtain ⟨b, h⟩ := txs_at t (p + 21) rest h fun y hy => hf y (List.mem_cons_of_mem _ hy)
    refine ⟨?_, ?_⟩
    · rw [List.length_cons, List.range_succ_eq_map, List.map_cons, List.map_map]
      congr 1
      conv => rhs; rw [← b]
      apply List.map_congr_left
      intro i _
      show txQ l (p + 21 * (i + 1)) = _
      congr 1
      omega
    · rw [← h, List.length_cons]
      congr 1
      omega
theorem dirs_at {l : List Nat} : ∀ (t : List DirP) (p : Nat) (rest : List Nat), l.drop p = t.flatMap dirL ++ rest → (∀ x ∈ t, x.Fits) → ((List.range t.length).map fun i => dirQ l (p + 12 * i)) = t ∧ l.drop (p + 12 * t.length) = rest
  | [], p, rest, h, _ => ⟨rfl, h⟩
  | x :: t, p, rest, h, hf => by
    rw [List.flatMap_cons, List.append_assoc] at h
    obtain ⟨a, h⟩ := dir_at h (hf x (List.mem_cons_self ..))
    obtain ⟨b, h⟩ := dirs_at t (p + 12) rest h fun y hy => hf y (List.mem_cons_of_mem _ hy)
    refine ⟨?_, ?_⟩
    · rw [List.length_cons, List.range_succ_eq_map, List.map_cons, List.map_map]
      congr 1
      conv => rhs; rw [← b]
      apply List.map_congr_left
      intro i _
      show dirQ l (p + 12 * (i + 1)) = _
      congr 1
      omega
    · rw [← h, List.length_cons]
      congr 1
      omega
theorem chg_at {l rest : List Nat} {c : ChgP} (h : l.drop 27 = chgL c ++ rest) (hf : c.Fits) (h1 : c.before.length < 256) (h2 : c.after.length < 256) : chgQ l = c := by
  unfold chgL lenL at h
  simp only [List.append_assoc] at h
  obtain ⟨a0, h⟩ := num_at h hf.1
  obtain ⟨a1, h⟩ := num_at h hf.2.1
  obtain ⟨-, g2, g3, g4⟩ := flags_enc c
  obtain ⟨a2, h⟩ := num_at h (show flagsN c < 256 ^ 1 by omega)
  obtain ⟨a3, h⟩ := num_at h (show c.before.length < 256 ^ 1 by omega)
  obtain ⟨a4, h⟩ := part_at h rfl
  obtain ⟨a5, h⟩ := num_at h (show c.after.length < 256 ^ 1 by omega)
  obtain ⟨a6, h⟩ := part_at h rfl
  have hk : kQ l = c.before.length := a3
  have hm : mQ l = c.after.length := by unfold mQ; rw [hk]; exact a5
  have e6 : partL l (36 + c.before.length) c.after.length = c.after := by
    rw [show 36 + c.before.length = 27 + 4 + 2 + 1 + 1 + c.before.length + 1 by omega]
    exact a6
  obtain ⟨pg, sl, had, has, bef, aft⟩ := c
  unfold chgQ
  rw [hk, hm, e6]
  rw [show numB l 33 1 = numB l (27 + 4 + 2) 1 from rfl, a2, g2, g3]
  simp only [ChgP.mk.injEq]
  exact ⟨a0, a1, by trivial, by trivial, a4, by trivial⟩
theorem parse_enc {r : RecP} (h : okR r = true) (hf : r.Fits) : parseQ (encL r) = r := by
  obtain ⟨h1, h2, h3, h4⟩ := okR_lens h
  have e0 : (encL r).drop 6 = bodyL r := by
    unfold encL
    exact List.drop_left' (by rw [List.length_append, putF_length, putF_length])
  have e1 : (encL r).drop 6 = putF 1 r.kind ++ (putF 4 r.txn ++ (putF 8 r.prev ++ (putF 8 r.next ++ (if chgs r.kind = true then chgL r.chg else if r.kind = 8 then tabL r else [])))) := by
    rw [e0]
    unfold bodyL headB
    simp only [List.append_assoc]
  obtain ⟨a0, e1⟩ := num_at e1 (show r.kind < 256 ^ 1 from hf.kind)
  obtain ⟨a1, e1⟩ := num_at e1 (show r.txn < 256 ^ 4 from hf.txn)
  obtain ⟨a2, e1⟩ := num_at e1 (show r.prev < 256 ^ 8 from hf.prev)
  obtain ⟨a3, e1⟩ := num_at e1 (show r.next < 256 ^ 8 from hf.next)
  have e27 : (encL r).drop 27 = (if chgs r.kind = true then chgL r.chg else if r.kind = 8 then tabL r else []) := e1
  have hk8 : chgs r.kind = true → r.kind ≠ 8 := fun q e => by rw [e] at q; cases q
  have b1 : (if chgs r.kind = true then chgQ (encL r) else chgZ0) = r.chg := by
    rcases hc : chgs r.kind with _ | _
    · rw [if_neg (by decide), okR_noChg h hc]
    · rw [if_pos rfl]
      rw [hc, if_pos rfl] at e27
      exact chg_at (rest := []) (by rw [List.append_nil]; exact e27) hf.chg (by omega) (by omega)
  have b2 : (if r.kind = 8 then txsQ (encL r) (ntQ (encL r)) else []) = r.txns ∧ (if r.kind = 8 then dirsQ (encL r) (29 + 21 * ntQ (encL r)) (npQ (encL r)) else []) = r.pages := by
    by_cases h8 : r.kind = 8
    · rw [if_pos h8, if_pos h8]
      have hnc : chgs r.kind = false := by rw [h8]; rfl
      rw [hnc, if_neg (by decide), if_pos h8] at e27
      unfold tabL at e27
      simp only [List.append_assoc] at e27
      obtain ⟨c0, e⟩ := num_at e27 (show r.txns.length < 256 ^ 1 by omega)
      obtain ⟨c1, e⟩ := txs_at r.txns _ _ e hf.txns
      obtain ⟨c2, e⟩ := num_at e (show r.pages.length < 256 ^ 1 by omega)
      obtain ⟨c3, e⟩ := dirs_at r.pages _ [] (by rw [List.append_nil]; exact e) hf.pages
      have hn : ntQ (encL r) = r.txns.length := c0
      have hp : npQ (encL r) = r.pages.length := by unfold npQ; rw [hn]; exact c2
      rw [hp, hn]
      refine ⟨c1, ?_⟩
      unfold dirsQ
      rw [show 29 + 21 * r.txns.length = 27 + 1 + 21 * r.txns.length + 1 by omega]
      exact c3
    · obtain ⟨n1, n2⟩ := okR_none8 h h8
      rw [if_neg h8, if_neg h8, n1, n2]
      exact ⟨rfl, rfl⟩
  have z0 : numB (encL r) 6 1 = r.kind := a0
  have z1 : numB (encL r) 7 4 = r.txn := a1
  have z2 : numB (encL r) 11 8 = r.prev := a2
  have z3 : numB (encL r) 19 8 = r.next := a3
  obtain ⟨k, tx, pv, nx, ch, ts, ps⟩ := r
  unfold parseQ
  rw [z0, z1, z2, z3, b1, b2.1, b2.2]
theorem parse_law {l : List Nat} (hs : Small l) (hn : decN l = l.length) : (∀ r, readP l = some r → r.Fits → parseQ l = r ∧ okR r = true ∧ encL r = l) ∧ (readP l = none → ¬ (okR (parseQ l) = true ∧ encL (parseQ l) = l)) := by
  constructor
  · intro r hr hf
    have e := enc_readP hr hs hn
    have hok := (readP_inv hr hs).1
    refine ⟨?_, hok, e.symm⟩
    rw [e]
    exact parse_enc hok hf
  · rintro hr ⟨h1, h2⟩
    have := readP_enc h1 (parseQ_fits hs)
    rw [h2, hr] at this
    cases this
end Go.Proofs.YtkganajbilnanaaGreat
namespace Go.Proofs.YtkganajbilnanaaGreat
open Go.ChangeShapes Go.WideShapes Go.ChangeAt Go.RowKit
open NumMath
set_option maxRecDepth 20000
set_option maxHeartbeats 4000000 in
theorem part_any (A : Option Addr) (c : Nat) (l : List Nat) (p n B : Nat) (w : World) (h : Bytes w B A l) (hB : B ≤ w.heap.size) (hl : l.length ≤ 100000) (hp : p ≤ 100000) (hn : n ≤ 100000) :
    Calls Tryz.prog 86 #[.slice A l.length c, .int .i64 (p : Nat), .int .i64 (n : Nat)] w (RetBytes 5 (partL l p n) w) := by
  obtain ⟨ln, hln⟩ : ∃ ln, l.length = ln := ⟨_, rfl⟩
  obtain ⟨E, hE⟩ : ∃ E, p + n = E := ⟨_, rfl⟩
  rw [hln] at hl ⊢
  have HL := Lib.hid hln
  have HEE := Lib.hid hE
  have v1 : IntKind.i64.wrap ((p : Int) + (n : Int)) = (E : Int) := by rw [IntKind.wrap_i64]; omega
  have hsm := h.2
  have H := Lib.hid h
  have hE2 : E ≤ 200000 := by omega
  have hpE : p ≤ E := by omega
  have hP0 : RB w w none 0 0 (partL l p 0) := RB.start w
  have hnE : Hid (E - p = n) := Lib.hid (by omega)
  clear hln hE h
  go_enter Tryz.func86, Tryz.ntmps86
  go_wp2_with fail
  go_loopw [7, 8] (fun bv iv wr => ∃ (q m c : Nat) (A : Option Addr), p + m = q ∧ q ≤ E ∧ iv = .int .i64 (q : Nat) ∧ bv = .slice A m c ∧ RB w wr A m c (partL l p m)) (fun _ iv _ => E - (intOf iv).toNat)
  case atStart => exact ⟨p, 0, 0, none, Nat.add_zero _, hpE, rfl, rfl, hP0⟩
  case round =>
    clear hP0
    obtain ⟨q, m, c', A', hq, hqE, rfl, rfl, hr⟩ := hrel
    have HQ := Lib.hid hq
    have hm : m ≤ 200000 := by omega
    clear hq
    rcases Nat.lt_or_ge q E with hlt | hge
    · have e1 : decide ((q : Int) < (E : Int)) = true := by rw [decide_eq_true_iff]; omega
      have hnx : Hid (partL l p (m + 1) = partL l p m ++ [l.getD q 0]) := Lib.hid (by rw [partL_succ, HQ.out])
      by_cases hin : q < ln
      · have e2 : decide ((q : Int) < (ln : Int)) = true := by rw [decide_eq_true_iff]; omega
        have e3 : (0 : Int) ≤ (q : Int) := by omega
        have e4 : (q : Int) < (ln : Int) := by omega
        have hql : q < l.length := by rw [HL.out]; exact hin
        obtain ⟨b, o, hA, hbB, hc⟩ := (H.out.below (hr.2.1.mono hB)).1 q (by simpa using hql)
        rw [List.getElem_map] at hc
        have hx : l.getD q 0 = l[q] := by rw [List.getD_eq_getElem?_getD, List.getElem?_eq_getElem hql]; rfl
        have hxs : l[q] < 256 := hsm _ (List.getElem_mem hql)
        generalize l[q] = x at *
        unfold byteV at hc
        have HX := Lib.hid hx
        rw [hA]
        clear hx hA
        generalize partL l p m = pm at *
        go_wp2_with (at_builtin; refine wpList_append_rb rfl _ _ 45 45 rfl Tryz.underlying45 Tryz.underlying45 (hr.alloc _) rfl (wr.heap.size + 1) (some ⟨wr.heap.size, 0, none⟩) 1 1 [x] rfl (one_bytes wr hxs) rfl (by omega) ?_; intro A7 c7 w7 r7; clear hr)
        rw [← HX.out, ← hnx.out] at r7
        have R7 := Lib.hid r7
        clear r7
        go_roundw
        case rel => exact ⟨q + 1, m + 1, c7, A7, by have := HQ.out; omega, by omega, by go_num, rfl, R7.out⟩
        case measure => simp [intOf]; omega
      · have e2 : decide ((q : Int) < (ln : Int)) = false := by rw [decide_eq_false_iff_not]; omega
        have hx : l.getD q 0 = 0 := by rw [List.getD_eq_getElem?_getD, List.getElem?_eq_none (by rw [HL.out]; omega)]; rfl
        have HX := Lib.hid hx
        clear hx
        generalize partL l p m = pm at *
        have hb0 : Bytes (wr.alloc (.cells #[.int .u8 0] 5)) (wr.heap.size + 1) (some ⟨wr.heap.size, 0, none⟩) [0] := one_bytes wr (x := 0) (by decide)
        have hra := hr.alloc (.cells #[.int .u8 0] 5)
        go_wp2_with (at_builtin; refine wpList_append_rb rfl _ _ 45 45 rfl Tryz.underlying45 Tryz.underlying45 hra rfl (wr.heap.size + 1) (some ⟨wr.heap.size, 0, none⟩) 1 1 [0] rfl hb0 rfl (by omega) ?_; intro A7 c7 w7 r7; clear hr hra hb0)
        rw [← HX.out, ← hnx.out] at r7
        have R7 := Lib.hid r7
        clear r7
        go_roundw
        case rel => exact ⟨q + 1, m + 1, c7, A7, by have := HQ.out; omega, by omega, by go_num, rfl, R7.out⟩
        case measure => simp [intOf]; omega
    · obtain rfl : q = E := by omega
      have e1 : decide ((q : Int) < (q : Int)) = false := by rw [decide_eq_false_iff_not]; omega
      have F := hr.ret (Below.refl _ _)
      rw [show m = n by have := HQ.out; have := HEE.out; omega] at F
      have hmn : m = n := by have := HQ.out; have := HEE.out; omega
      have FF := Lib.hid F
      subst hmn
      clear hr F hge hqE
      go_wp2
      go_ret
      exact FF.out
set_option maxHeartbeats 2000000 in
theorem number_any (A : Option Addr) (c : Nat) (l : List Nat) (p n B : Nat) (w : World) (h : Bytes w B A l) (hB : B ≤ w.heap.size) (hl : l.length ≤ 100000) (hp : p ≤ 100000) (hn : n ≤ 8) :
    Calls Tryz.prog 85 #[.slice A l.length c, .int .i64 (p : Nat), .int .i64 (n : Nat)] w fun e w' => e = .returned (.int .u64 (numB l p n : Nat)) ∧ Below w.heap.size w w' := by
  have cp := part_any A c l p n B w h hB hl hp (by omega)
  have hnb : Hid (numB l p n = getL ((partL l p n).take 8)) := Lib.hid (by rw [List.take_of_length_le (by rw [partL_length]; exact hn)]; rfl)
  have hpl := partL_length l p n
  clear h
  go_enter Tryz.func85, Tryz.ntmps85
  go_wp2_with fail
  refine cp.mono ?_
  rintro e w1 hret
  obtain ⟨A1, c1, rfl, o1, b1, x1⟩ := hret.is
  have cg := refget_any A1 c1 (partL l p n) w1.heap.size w1 x1 (by rw [hpl]; omega)
  rw [← hnb.out, hpl] at cg
  rw [hpl]
  clear hpl
  generalize partL l p n = pm at *
  have B1 := Lib.hid b1
  clear cp hret o1 b1 x1
  go_wp2_with fail
  refine cg.mono ?_
  rintro e w2 ⟨rfl, hd⟩
  have F := Lib.hid (B1.out.trans ((hd.below w1.heap.size).mono B1.out.size))
  clear cg hd
  go_wp2
  go_ret
  exact ⟨rfl, F.out⟩
end Go.Proofs.YtkganajbilnanaaGreat
