/- wal's law: a log that is played, in memory. Conditions: none. -/
import Derived.Test.YtkganajbilnanaaWWalOp
import Derived.Test.YtkganajbilnanaaWRecC
namespace Go.Proofs.Ytkganajbilnanaa
open Go.ChangeShapes Go.WideShapes Go.ChangeAt Go.RowKit
open NumMath
set_option linter.unusedVariables false
set_option linter.unusedSimpArgs false
set_option maxRecDepth 20000

def entA (e : Nat × RecP) (m : RecMm) : List Value := .int .u64 (e.1 : Nat) :: (recA e.2 m).toList
theorem entA_length (e : Nat × RecP) (m : RecMm) : (entA e m).length = 13 := rfl
def entsA : List (Nat × RecP) → List RecMm → List Value
  | e :: es, m :: ms => entA e m ++ entsA es ms
  | _, _ => []
theorem entsA_length : ∀ (es : List (Nat × RecP)) (ms : List RecMm), ms.length = es.length → (entsA es ms).length = 13 * es.length
  | [], [], _ => rfl
  | e :: es, m :: ms, h => by
    show (entA e m ++ entsA es ms).length = _
    rw [List.length_append, entA_length, entsA_length es ms (by simpa using h), List.length_cons]
    omega
  | [], _ :: _, h => by cases h
  | _ :: _, [], h => by cases h
theorem entsA_one : ∀ (es : List (Nat × RecP)) (ms : List RecMm), ms.length = es.length → ∀ u ∈ entsA es ms, u.oneCell' = true
  | [], [], _, u, hu => by cases hu
  | e :: es, m :: ms, h, u, hu => by
    rcases List.mem_append.1 hu with q | q
    · simp only [entA, recA, List.mem_cons, List.toList_toArray, List.not_mem_nil, or_false] at q
      rcases q with q | q | q | q | q | q | q | q | q | q | q | q | q <;> (rw [q]; rfl)
    · exact entsA_one es ms (by simpa using h) u q
  | [], _ :: _, h, _, _ => by cases h
  | _ :: _, [], h, _, _ => by cases h
theorem entsA_snoc : ∀ (es : List (Nat × RecP)) (ms : List RecMm) (e : Nat × RecP) (m : RecMm), ms.length = es.length → entsA (es ++ [e]) (ms ++ [m]) = entsA es ms ++ entA e m
  | [], [], e, m, _ => by show entA e m ++ [] = [] ++ entA e m; rw [List.append_nil, List.nil_append]
  | x :: es, y :: ms, e, m, h => by
    show entA x y ++ entsA (es ++ [e]) (ms ++ [m]) = (entA x y ++ entsA es ms) ++ entA e m
    rw [entsA_snoc es ms e m (by simpa using h), List.append_assoc]
  | [], _ :: _, _, _, h => by cases h
  | _ :: _, [], _, _, h => by cases h
theorem entsA_at : ∀ (es : List (Nat × RecP)) (ms : List RecMm) (j : Nat) (e : Nat × RecP) (m : RecMm) (i : Nat) (v : Value), ms.length = es.length → es[j]? = some e → ms[j]? = some m → (entA e m)[i]? = some v → (entsA es ms)[j * 13 + i]? = some v
  | x :: es, y :: ms, 0, e, m, i, v, h, he, hm, hv => by
    injection he with he
    injection hm with hm
    subst he
    subst hm
    show (entA x y ++ entsA es ms)[0 * 13 + i]? = _
    have : i < 13 := (List.getElem?_eq_some_iff.1 hv).1
    rw [List.getElem?_append_left (by rw [entA_length]; omega), show 0 * 13 + i = i by omega]
    exact hv
  | x :: es, y :: ms, j + 1, e, m, i, v, h, he, hm, hv => by
    show (entA x y ++ entsA es ms)[(j + 1) * 13 + i]? = _
    rw [List.getElem?_append_right (by rw [entA_length]; omega), entA_length, show (j + 1) * 13 + i - 13 = j * 13 + i by omega]
    exact entsA_at es ms j e m i v (by simpa using h) he hm hv
  | [], [], _, _, _, _, _, _, he, _, _ => by simp at he
  | [], _ :: _, _, _, _, _, _, h, _, _, _ => by cases h
  | _ :: _, [], _, _, _, _, _, h, _, _, _ => by cases h
/-- entries in a row of one's own; their records' rows lie below B -/
def EntsOwn (w : World) (B : Nat) (v : Value) (es : List (Nat × RecP)) : Prop :=
  (es = [] → v = .slice none 0 0) ∧ ∃ ms, ms.length = es.length ∧ w.ownsRow B 63 13 v es.length (entsA es ms) ∧ ∀ (i : Nat) (e : Nat × RecP) (m : RecMm), es[i]? = some e → ms[i]? = some m → RecAt w B e.2 m
theorem EntsOwn.nil (w : World) (B : Nat) : EntsOwn w B (.slice none 0 0) [] := ⟨fun _ => rfl, [], rfl, World.ownsRow_nil _ _ _ _, fun i e m h => by cases h⟩
theorem EntsOwn.only {w w' : World} {B : Nat} {v : Value} {es : List (Nat × RecP)} {S : Nat → Prop} (h : EntsOwn w B v es) (ho : Only S w w') (hB : B ≤ w.heap.size) (hs : ∀ b, S b → B ≤ b) (hv : ∀ b, v.ownBlock = some b → ¬ S b) : EntsOwn w' B v es := by
  obtain ⟨h0, ms, h1, h2, h3⟩ := h
  exact ⟨h0, ms, h1, ho.own h2 hv, fun i e m q q' => (h3 i e m q q').below (ho.below hB hs)⟩
/-- the game -/
structure PlayAt (B : Nat) (L : LogP) (D : DevP) (w : World) (H : Nat → Prop) (gpl : Nat) (wb wl : Nat) (wes : List (Nat × RecP)) (ib il : Nat) (ies : List (Nat × RecP)) (pd pl wv iv : Value) : Prop where
  blk : Blk w gpl 46 #[pd, pl, .int .u64 (wb : Nat), .int .u64 (wl : Nat), wv, .int .u64 (ib : Nat), .int .u64 (il : Nat), iv]
  log : IsLog L D w H pl pd
  was : EntsOwn w B wv wes
  is : EntsOwn w B iv ies
  nH : ¬ H gpl
  nW : ∀ b, wv.ownBlock = some b → ¬ H b
  nI : ∀ b, iv.ownBlock = some b → ¬ H b
  hi : ∀ b, H b → b < w.heap.size
  lo : ∀ b, H b → B ≤ b
  size : B ≤ w.heap.size
  gB : B ≤ gpl
section
variable {B : Nat} {L L' : LogP} {D D' : DevP} {w w' : World} {H : Nat → Prop} {gpl wb wl ib il : Nat} {wes ies : List (Nat × RecP)} {pd pl wv iv : Value}
theorem PlayAt.post (h : PlayAt B L D w H gpl wb wl wes ib il ies pd pl wv iv) (hp : LogPost L' D' H pl pd w w') : PlayAt B L' D' w' (grow H w w') gpl wb wl wes ib il ies pd pl wv iv := by
  have hs := hp.2.size
  have hn : ∀ b, b < w.heap.size → ¬ H b → ¬ grow H w w' b := fun b q1 q2 q => q.elim q2 fun z => by omega
  have ho : ∀ v, (∃ es, EntsOwn w B v es) → ∀ b, v.ownBlock = some b → b < w.heap.size := fun v ⟨es, _, ms, _, q, _⟩ b e => (q.lt b e).2
  refine ⟨h.blk.only hp.2 h.nH, hp.1, h.was.only hp.2 h.size h.lo h.nW, h.is.only hp.2 h.size h.lo h.nI, hn _ h.blk.lt h.nH, fun b e => hn b (ho wv ⟨_, h.was⟩ b e) (h.nW b e), fun b e => hn b (ho iv ⟨_, h.is⟩ b e) (h.nI b e), fun b q => ?_, fun b q => ?_, Nat.le_trans h.size hs, h.gB⟩
  · exact q.elim (fun z => Nat.lt_of_lt_of_le (h.hi b z) hs) fun z => z.2
  · exact q.elim (h.lo b) fun z => Nat.le_trans h.size z.1
theorem PlayAt.below (h : PlayAt B L D w H gpl wb wl wes ib il ies pd pl wv iv) (hb : Below w.heap.size w w') : PlayAt B L D w' H gpl wb wl wes ib il ies pd pl wv iv := by
  have ho : Only (fun _ => False) w w' := Only.of_below hb _
  exact ⟨h.blk.below hb h.blk.lt, h.log.below hb, h.was.only ho h.size (fun b q => q.elim) (fun b _ q => q), h.is.only ho h.size (fun b q => q.elim) (fun b _ q => q), h.nH, h.nW, h.nI, fun b q => Nat.lt_of_lt_of_le (h.hi b q) hb.size, h.lo, Nat.le_trans h.size hb.size, h.gB⟩
/-- its box alone is written -/
theorem PlayAt.box (h : PlayAt B L D w H gpl wb wl wes ib il ies pd pl wv iv) {wb' wl' ib' il' : Nat} {wes' ies' : List (Nat × RecP)} {wv' iv' : Value} (ho : Only (fun b => b = gpl) w w')
    (hb : Blk w' gpl 46 #[pd, pl, .int .u64 (wb' : Nat), .int .u64 (wl' : Nat), wv', .int .u64 (ib' : Nat), .int .u64 (il' : Nat), iv'])
    (hw : EntsOwn w B wv' wes') (hi : EntsOwn w B iv' ies') (nW : ∀ b, wv'.ownBlock = some b → ¬ H b) (nI : ∀ b, iv'.ownBlock = some b → ¬ H b) : PlayAt B L D w' H gpl wb' wl' wes' ib' il' ies' pd pl wv' iv' := by
  have hgl := h.blk.ty
  have hn : ∀ (v : Value) (es : List (Nat × RecP)), EntsOwn w B v es → ∀ b, v.ownBlock = some b → ¬ b = gpl := fun v es ⟨_, ms, _, q, _⟩ b e z => by subst z; exact absurd ((own_ty q e).uniq hgl) (by decide)
  exact ⟨hb, h.log.only ho fun b q e => by subst e; exact h.nH q, hw.only ho h.size (fun b e => by rw [e]; exact h.gB) (hn _ _ hw), hi.only ho h.size (fun b e => by rw [e]; exact h.gB) (hn _ _ hi), h.nH, nW, nI, fun b q => Nat.lt_of_lt_of_le (h.hi b q) ho.size, h.lo, Nat.le_trans h.size ho.size, h.gB⟩
end
/-- the entries of a log of these records -/
def entsP (p : Nat) : List RecP → List (Nat × RecP)
  | [] => []
  | r :: rs => (p, r) :: entsP (p + (encL r).length) rs
theorem entsP_length (rs : List RecP) : ∀ p, (entsP p rs).length = rs.length := by
  induction rs with
  | nil => exact fun _ => rfl
  | cons r rs ih => exact fun p => by simp [entsP, ih]
theorem entsP_at (rs : List RecP) : ∀ (p k : Nat) (hk : k < rs.length), (entsP p rs)[k]? = some (p + offK rs k, rs[k]) := by
  induction rs with
  | nil => intro p k h; cases h
  | cons r rs ih =>
    intro p k h
    cases k with
    | zero => rfl
    | succ k =>
      show (entsP (p + (encL r).length) rs)[k]? = _
      rw [ih _ k (by simpa using h), offK_cons, Nat.add_assoc]
      rfl
theorem entsP_snoc (rs : List RecP) (r : RecP) : ∀ p, entsP p (rs ++ [r]) = entsP p rs ++ [(p + (rs.flatMap encL).length, r)] := by
  induction rs with
  | nil => intro p; simp [entsP]
  | cons x rs ih =>
    intro p
    show (p, x) :: entsP (p + (encL x).length) (rs ++ [r]) = _
    rw [ih]
    simp [entsP, Nat.add_assoc]
/-- what a call makes of a log, its device, its records -/
def stepP (L : LogP) (D : DevP) (rs : List RecP) (x : WOp) : LogP × DevP × List RecP :=
  if x.kind % 11 = 4 then (flushL L x.at_, flushD L D x.at_, rs)
  else if x.kind % 11 = 6 then (markL L x.at_, markD L D x.at_, rs)
  else if x.kind % 11 = 7 then (renewL L, renewD L D, [])
  else if x.kind % 11 < 4 then ((appP L x.r (x.spare % 100)).2, D, if (appP L x.r (x.spare % 100)).1.2 = 0 then rs ++ [x.r] else rs)
  else (L, D, rs)
end Go.Proofs.Ytkganajbilnanaa
