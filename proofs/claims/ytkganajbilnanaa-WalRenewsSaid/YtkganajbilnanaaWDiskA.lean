/- The law's own sector with a front. Conditions: as stated. -/
import Derived.Test.YtkganajbilnanaaWBase
namespace Go.Proofs.Ytkganajbilnanaa
open Go.ChangeShapes Go.WideShapes Go.ChangeAt Go.RowKit
set_option linter.unusedVariables false
set_option linter.unusedSimpArgs false
set_option maxRecDepth 20000

def frontL (fr : List Nat) (j : Nat) : List Nat := fr.take j ++ List.replicate (128 - j) 0
def fullL (fr : List Nat) : List Nat := frontL fr (min fr.length 128)
theorem frontL_length {fr : List Nat} {j : Nat} (h : j ≤ fr.length) (h2 : j ≤ 128) : (frontL fr j).length = 128 := by simp [frontL]; omega
theorem frontL_small {fr : List Nat} (h : Small fr) (j : Nat) : Small (frontL fr j) := fun x hx => by
  rcases List.mem_append.1 hx with q | q
  · exact h x (List.mem_of_mem_take q)
  · rw [(List.mem_replicate.1 q).2]; omega
theorem fullL_length (fr : List Nat) : (fullL fr).length = 128 := frontL_length (by omega) (by omega)
theorem frontL_next {fr : List Nat} {j : Nat} (h : j < fr.length) (h2 : j < 128) : (frontL fr j).set j fr[j] = frontL fr (j + 1) := by
  unfold frontL
  have hl : (fr.take j).length = j := by simp; omega
  rw [List.set_append, hl, if_neg (by omega), Nat.sub_self, show 128 - j = (128 - (j + 1)) + 1 by omega, List.replicate_succ, List.set_cons_zero, List.take_succ_eq_append_getElem h, List.append_assoc]
  rfl
end Go.Proofs.Ytkganajbilnanaa


/- How a device lies in memory: sectors, what waits, their blocks. Conditions: none. -/
namespace Go.Proofs.Ytkganajbilnanaa
open Go.ChangeShapes Go.WideShapes Go.ChangeAt Go.RowKit
set_option linter.unusedVariables false
set_option linter.unusedSimpArgs false

/-- a block of bytes -/
def U8 (w : World) (b : Nat) : Prop := ∃ cs f, w.heap[b]? = some (.cells cs 5 f)
/-- a slice of bytes that is only read: its bytes lie in blocks of bytes in F -/
def Txt (w : World) (F : Nat → Prop) (v : Value) (l : List Nat) : Prop := ∃ A c, v = .slice A l.length c ∧ l.length ≤ c ∧ BytesIn w (fun b => F b ∧ U8 w b) A l
section
variable {w w' : World} {F F' S : Nat → Prop} {v : Value} {l : List Nat}
theorem U8.only {b : Nat} (h : U8 w b) (hb : b < w.heap.size) (ho : Only S w w') (hs : ¬ S b) : U8 w' b := by
  obtain ⟨cs, f, h⟩ := h
  exact ⟨cs, f, (ho.block b hb hs).trans h⟩
theorem U8.uniq' {b : Nat} {t : TypeId} (h : U8 w b) (h' : ∃ cs f, w.heap[b]? = some (.cells cs t f)) : 5 = t := by
  obtain ⟨cs, f, h⟩ := h
  obtain ⟨cs', f', h'⟩ := h'
  rw [h] at h'
  injection h' with h'
  injection h'
theorem U8.lt {b : Nat} (h : U8 w b) : b < w.heap.size := by
  obtain ⟨cs, f, h⟩ := h
  exact (Array.getElem?_eq_some_iff.1 h).1
theorem Txt.bytes (h : Txt w F v l) : ∃ A c, v = .slice A l.length c ∧ l.length ≤ c ∧ Bytes w w.heap.size A l := by
  obtain ⟨A, c, e, hc, hb⟩ := h
  exact ⟨A, c, e, hc, hb.bytes⟩
theorem Txt.only (h : Txt w F v l) (ho : Only S w w') (hs : ∀ b, F b → U8 w b → ¬ S b) : Txt w' F v l := by
  obtain ⟨A, c, e, hc, hb⟩ := h
  refine ⟨A, c, e, hc, ?_, hb.2⟩
  intro j hj
  obtain ⟨b, o, e, ⟨h1, h2⟩, h3, h4⟩ := hb.1 j hj
  exact ⟨b, o, e, ⟨h1, h2.only h3 ho (hs b h1 h2)⟩, Nat.lt_of_lt_of_le h3 ho.size, (ho.cell (p := ⟨b, o + j, none⟩) h3 (hs b h1 h2)).trans h4⟩
theorem Txt.mono (h : Txt w F v l) (hs : ∀ b, F b → U8 w b → F' b) : Txt w F' v l := by
  obtain ⟨A, c, e, hc, hb⟩ := h
  exact ⟨A, c, e, hc, hb.mono fun b q => ⟨hs b q.1 q.2, q.2⟩⟩
/-- a row of bytes of one's own is a text -/
theorem Txt.own {base n c : Nat} {A : Option Addr} (h : w.ownsRow base 5 1 (.slice A n c) n (l.map byteV)) (hn : l.length = n) (hl : Small l) (hF : ∀ b, (Value.slice A n c).ownBlock = some b → F b) : Txt w F (.slice A n c) l := by
  subst hn
  refine ⟨A, c, rfl, own_cap h, ?_, hl⟩
  intro j hj
  have hj' : j < l.length := by simpa using hj
  obtain ⟨g, rfl, hg, hg'⟩ := own_pos h (by omega)
  refine ⟨g, 0, rfl, ⟨hF g rfl, ?_⟩, hg', ?_⟩
  · rcases h.2 with ⟨e, _⟩ | ⟨g', cap', cur', e, _, hgb, _⟩
    · cases e
    · injection e with e _ _
      injection e with e
      injection e with e _
      subst e
      exact ⟨cur', _, hgb⟩
  · rw [Nat.zero_add, h.cellAt j (by omega), List.getElem?_eq_getElem hj]
end

/-- a sector: what lasts, what waits -/
structure Sect where
  last : List Nat
  waits : List (List Nat)
/-- what waits: a row of one's own, whose elements are texts -/
def IsWaits (w : World) (F : Nat → Prop) (v : Value) (ws : List (List Nat)) : Prop :=
  ∃ L, w.ownsRow 0 26 1 v ws.length L ∧ (∀ b, v.ownBlock = some b → F b) ∧ ∀ (j : Nat) (u : Value) (l : List Nat), L[j]? = some u → ws[j]? = some l → Txt w F u l
section
variable {w w' : World} {F F' S : Nat → Prop} {v : Value} {ws : List (List Nat)}
theorem IsWaits.only (h : IsWaits w F v ws) (ho : Only S w w') (hs : ∀ b, F b → U8 w b → ¬ S b) (hv : ∀ b, v.ownBlock = some b → ¬ S b) : IsWaits w' F v ws := by
  obtain ⟨L, h1, h2, h3⟩ := h
  exact ⟨L, ho.own h1 hv, h2, fun j u l hu hl => (h3 j u l hu hl).only ho hs⟩
theorem IsWaits.mono (h : IsWaits w F v ws) (hs : ∀ b, F b → F' b) : IsWaits w F' v ws := by
  obtain ⟨L, h1, h2, h3⟩ := h
  exact ⟨L, h1, fun b e => hs b (h2 b e), fun j u l hu hl => (h3 j u l hu hl).mono fun b q _ => hs b q⟩
theorem IsWaits.nil (w : World) (F : Nat → Prop) : IsWaits w F (.slice none 0 0) [] :=
  ⟨[], World.ownsRow_nil _ _ _ _, (fun b e => by cases e), fun j u l hu => by cases hu⟩
end
/-- a file: a row of sectors of type ts; xs: its cells, two a sector -/
def IsFile (ts : TypeId) (w : World) (F : Nat → Prop) (v : Value) (xs : List Value) (ss : List Sect) : Prop :=
  w.ownsRow 0 ts 2 v ss.length xs ∧ (∀ b, v.ownBlock = some b → F b) ∧ ∀ (i : Nat) (s : Sect), ss[i]? = some s → ∃ lv wv, xs[2 * i]? = some lv ∧ xs[2 * i + 1]? = some wv ∧ Txt w F lv s.last ∧ IsWaits w F wv s.waits
/-- what waits lies apart, sector by sector, in both files -/
def Apart (X : Nat → List Value) : Prop := ∀ f i g j u v, f < 2 → g < 2 → ¬ (f = g ∧ i = j) → (X f)[2 * i + 1]? = some u → (X g)[2 * j + 1]? = some v → u.ownBlock = none ∨ u.ownBlock ≠ v.ownBlock
section
variable {w w' : World} {F F' S : Nat → Prop} {v : Value} {xs : List Value} {ss : List Sect} {ts : TypeId}
theorem IsFile.only (h : IsFile ts w F v xs ss) (ho : Only S w w') (hs : ∀ b, F b → ¬ S b) : IsFile ts w' F v xs ss := by
  obtain ⟨h1, h2, h3⟩ := h
  refine ⟨ho.own h1 (fun k e => hs k (h2 k e)), h2, fun i s e => ?_⟩
  obtain ⟨lv, wv, e1, e2, e3, e4⟩ := h3 i s e
  refine ⟨lv, wv, e1, e2, e3.only ho fun b q _ => hs b q, e4.only ho (fun b q _ => hs b q) ?_⟩
  obtain ⟨L, _, k2, _⟩ := e4
  exact fun b q => hs b (k2 b q)
theorem IsFile.mono (h : IsFile ts w F v xs ss) (hs : ∀ b, F b → F' b) : IsFile ts w F' v xs ss := by
  obtain ⟨h1, h2, h3⟩ := h
  refine ⟨h1, fun b e => hs b (h2 b e), fun i s e => ?_⟩
  obtain ⟨lv, wv, e1, e2, e3, e4⟩ := h3 i s e
  exact ⟨lv, wv, e1, e2, e3.mono fun b q _ => hs b q, e4.mono hs⟩
end
/-- the rows of both files, what waits -/
structure FilesAt (ts : TypeId) (f : Nat → List Sect) (w : World) (F : Nat → Prop) (s : Nat → Value) (X : Nat → List Value) : Prop where
  file : ∀ n, n < 2 → IsFile ts w F (s n) (X n) (f n)
  rows : (s 0).ownBlock = none ∨ (s 0).ownBlock ≠ (s 1).ownBlock
  apart : Apart X
/-- a block of cells of this type -/
def Ty (w : World) (b : Nat) (t : TypeId) : Prop := ∃ cs f, w.heap[b]? = some (.cells cs t f)
theorem Ty.uniq {w : World} {b : Nat} {t t' : TypeId} (h : Ty w b t) (h' : Ty w b t') : t = t' := by
  obtain ⟨cs, f, h⟩ := h
  obtain ⟨cs', f', h'⟩ := h'
  rw [h] at h'
  injection h' with h'
  injection h'
theorem Ty.only {w w' : World} {S : Nat → Prop} {b : Nat} {t : TypeId} (h : Ty w b t) (hb : b < w.heap.size) (ho : Only S w w') (hs : ¬ S b) : Ty w' b t := by
  obtain ⟨cs, f, h⟩ := h
  exact ⟨cs, f, (ho.block b hb hs).trans h⟩
theorem own_ty {w : World} {base : Nat} {e : TypeId} {size : Nat} {v : Value} {n : Nat} {xs : List Value} (h : w.ownsRow base e size v n xs) {b : Nat} (hb : v.ownBlock = some b) : Ty w b e := by
  rcases h.2 with ⟨rfl, _⟩ | ⟨g, cap, cur, rfl, _, hgb, _⟩
  · cases hb
  · obtain rfl : g = b := by simpa [Value.ownBlock] using hb
    exact ⟨cur, _, hgb⟩
theorem Blk.ty {w : World} {g : Nat} {t : TypeId} {cs : Array Value} (h : Blk w g t cs) : Ty w g t := ⟨cs, _, h⟩
/-- these blocks' types are none of a device's rows -/
def Far (w : World) (ts : TypeId) (S : Nat → Prop) : Prop := ∀ b, S b → b < w.heap.size → ∃ t, Ty w b t ∧ t ≠ ts ∧ t ≠ 26 ∧ t ≠ 5
section
variable {w w' : World} {F F' S : Nat → Prop} {s : Nat → Value} {X : Nat → List Value} {ts : TypeId} {f : Nat → List Sect}
theorem Far.not_u8 (h : Far w ts S) {b : Nat} (hb : U8 w b) : ¬ S b := fun q => by
  obtain ⟨t, h1, _, _, h4⟩ := h b q hb.lt
  exact h4 (h1.uniq hb)
theorem Far.not_own (h : Far w ts S) {base : Nat} {e : TypeId} {size : Nat} {v : Value} {n : Nat} {xs : List Value} (ho : w.ownsRow base e size v n xs) (he : e = ts ∨ e = 26) : ∀ b, v.ownBlock = some b → ¬ S b := fun b hb q => by
  obtain ⟨t, h1, h2, h3, _⟩ := h b q (ho.lt b hb).2
  have := h1.uniq (own_ty ho hb)
  rcases he with rfl | rfl
  · exact h2 this
  · exact h3 this
theorem FilesAt.only (h : FilesAt ts f w F s X) (ho : Only S w w') (hs : ∀ b, F b → ¬ S b) : FilesAt ts f w' F s X := ⟨fun n hn => (h.file n hn).only ho hs, h.rows, h.apart⟩
theorem FilesAt.mono (h : FilesAt ts f w F s X) (hs : ∀ b, F b → F' b) : FilesAt ts f w F' s X := ⟨fun n hn => (h.file n hn).mono hs, h.rows, h.apart⟩
theorem FilesAt.far (h : FilesAt ts f w F s X) (ho : Only S w w') (hS : Far w ts S) : FilesAt ts f w' F s X := by
  refine ⟨fun n hn => ?_, h.rows, h.apart⟩
  obtain ⟨h1, h2, h3⟩ := h.file n hn
  refine ⟨ho.own h1 (hS.not_own h1 (.inl rfl)), h2, fun i sc e => ?_⟩
  obtain ⟨lv, wv, e1, e2, e3, e4⟩ := h3 i sc e
  refine ⟨lv, wv, e1, e2, e3.only ho fun b _ hu => hS.not_u8 hu, e4.only ho (fun b _ hu => hS.not_u8 hu) ?_⟩
  obtain ⟨L, k1, k2, _⟩ := e4
  exact hS.not_own k1 (.inr rfl)
/-- all but one sector -/
structure FilesBut (ts : TypeId) (f : Nat → List Sect) (w : World) (F : Nat → Prop) (s : Nat → Value) (X : Nat → List Value) (n k : Nat) : Prop where
  row : ∀ m, m < 2 → w.ownsRow 0 ts 2 (s m) (f m).length (X m) ∧ ∀ b, (s m).ownBlock = some b → F b
  sect : ∀ m, m < 2 → ∀ (i : Nat) (sc : Sect), ¬ (m = n ∧ i = k) → (f m)[i]? = some sc → ∃ lv wv, (X m)[2 * i]? = some lv ∧ (X m)[2 * i + 1]? = some wv ∧ Txt w F lv sc.last ∧ IsWaits w F wv sc.waits
  rows : (s 0).ownBlock = none ∨ (s 0).ownBlock ≠ (s 1).ownBlock
  apart : Apart X
theorem FilesAt.but (h : FilesAt ts f w F s X) (n k : Nat) : FilesBut ts f w F s X n k :=
  ⟨fun m hm => ⟨(h.file m hm).1, (h.file m hm).2.1⟩, fun m hm i sc _ e => (h.file m hm).2.2 i sc e, h.rows, h.apart⟩
theorem FilesBut.mono {n k : Nat} (h : FilesBut ts f w F s X n k) (hs : ∀ b, F b → F' b) : FilesBut ts f w F' s X n k :=
  ⟨fun m hm => ⟨(h.row m hm).1, fun b e => hs b ((h.row m hm).2 b e)⟩, fun m hm i sc hne e => by
    obtain ⟨lv, wv, e1, e2, e3, e4⟩ := h.sect m hm i sc hne e
    exact ⟨lv, wv, e1, e2, e3.mono fun b q _ => hs b q, e4.mono hs⟩, h.rows, h.apart⟩
/-- .. and that sector's list of what waits was written -/
theorem FilesBut.wrote {n k : Nat} (h : FilesBut ts f w F s X n k) (hn : n < 2) (hts : ts ≠ 26) {wv : Value} (hwv : (X n)[2 * k + 1]? = some wv) {base : Nat} {L : List Value} {c : Nat} (how : w.ownsRow base 26 1 wv c L) (hg : w.grownBy w' wv.ownBlock) : FilesBut ts f w' F s X n k := by
  have ho : Only (fun b => wv.ownBlock = some b) w w' := Only.of_grown hg fun b e => .inl e
  have hu : ∀ b, F b → U8 w b → ¬ wv.ownBlock = some b := fun b _ hb e => absurd ((own_ty how e).uniq hb) (by decide)
  refine ⟨fun m hm => ⟨ho.own (h.row m hm).1 fun b e q => hts ((own_ty (h.row m hm).1 e).uniq (own_ty how q)), (h.row m hm).2⟩, fun m hm i sc hne e => ?_, h.rows, h.apart⟩
  obtain ⟨lv, wv', e1, e2, e3, e4⟩ := h.sect m hm i sc hne e
  refine ⟨lv, wv', e1, e2, e3.only ho hu, e4.only ho hu fun b q q' => ?_⟩
  rcases h.apart m i n k wv' wv hm hn hne e2 hwv with z | z
  · rw [z] at q; cases q
  · exact z (q.trans q'.symm)
/-- a sector is put -/
def putD (f : Nat → List Sect) (n k : Nat) (sc : Sect) (m : Nat) : List Sect := if m = n then (f m).set k sc else f m
def updX (X : Nat → List Value) (n : Nat) (xs : List Value) (m : Nat) : List Value := if m = n then xs else X m
theorem FilesBut.put {n k : Nat} (h : FilesBut ts f w F s X n k) (hn : n < 2) (hts : ts ≠ 26) (hts2 : ts ≠ 5) {xs : List Value} {lv wv : Value} {sc : Sect}
    (ho : w'.ownsRow 0 ts 2 (s n) (f n).length xs) (h1 : xs[2 * k]? = some lv) (h2 : xs[2 * k + 1]? = some wv) (hx : ∀ j, j ≠ 2 * k → j ≠ 2 * k + 1 → xs[j]? = (X n)[j]?)
    (hS : Only (fun b => (s n).ownBlock = some b) w w') (ht : Txt w F lv sc.last) (hw : IsWaits w F wv sc.waits)
    (ha : ∀ m i u, m < 2 → ¬ (m = n ∧ i = k) → (X m)[2 * i + 1]? = some u → u.ownBlock = none ∨ wv.ownBlock = none ∨ u.ownBlock ≠ wv.ownBlock) :
    FilesAt ts (putD f n k sc) w' F s (updX X n xs) := by
  have hr := h.row n hn
  have hu : ∀ b, F b → U8 w b → ¬ (s n).ownBlock = some b := fun b _ hb e => hts2 ((own_ty hr.1 e).uniq hb)
  have hwk : ∀ (v : Value) (ws : List (List Nat)), IsWaits w F v ws → IsWaits w' F v ws := fun v ws q => q.only hS hu (by
    obtain ⟨L, q1, _⟩ := q
    exact fun b e e' => hts ((own_ty hr.1 e').uniq (own_ty q1 e)))
  refine ⟨fun m hm => ?_, h.rows, ?_⟩
  · by_cases e : m = n
    · subst e
      unfold putD updX
      rw [if_pos rfl, if_pos rfl]
      refine ⟨by rw [List.length_set]; exact ho, hr.2, fun i sc' hi => ?_⟩
      rw [List.getElem?_set] at hi
      by_cases ei : k = i
      · subst ei
        rw [if_pos rfl] at hi
        split at hi
        · injection hi with hi
          subst hi
          exact ⟨lv, wv, h1, h2, ht.only hS hu, hwk _ _ hw⟩
        · cases hi
      · rw [if_neg ei] at hi
        obtain ⟨lv', wv', e1, e2, e3, e4⟩ := h.sect m hm i sc' (fun q => ei q.2.symm) hi
        exact ⟨lv', wv', by rw [hx _ (by omega) (by omega)]; exact e1, by rw [hx _ (by omega) (by omega)]; exact e2, e3.only hS hu, hwk _ _ e4⟩
    · unfold putD updX
      rw [if_neg e, if_neg e]
      refine ⟨hS.own (h.row m hm).1 fun b q q' => ?_, (h.row m hm).2, fun i sc' hi => ?_⟩
      · have hd : (s m).ownBlock ≠ (s n).ownBlock := by
          have h0 := h.rows
          rcases (show (m = 0 ∧ n = 1) ∨ (m = 1 ∧ n = 0) from by omega) with ⟨rfl, rfl⟩ | ⟨rfl, rfl⟩
          · rcases h0 with z | z
            · rw [z] at q; cases q
            · exact z
          · rcases h0 with z | z
            · rw [z] at q'; cases q'
            · exact fun y => z y.symm
        exact hd (q.trans q'.symm)
      · obtain ⟨lv', wv', e1, e2, e3, e4⟩ := h.sect m hm i sc' (fun q => e q.1) hi
        exact ⟨lv', wv', e1, e2, e3.only hS hu, hwk _ _ e4⟩
  · intro m i m' j u v hm hm' hne hu1 hv1
    have key : ∀ m i u, (updX X n xs m)[2 * i + 1]? = some u → (m = n ∧ i = k ∧ u = wv) ∨ (¬ (m = n ∧ i = k) ∧ (X m)[2 * i + 1]? = some u) := fun m i u hq => by
      unfold updX at hq
      by_cases e : m = n
      · subst e
        rw [if_pos rfl] at hq
        by_cases ei : i = k
        · subst ei
          rw [h2] at hq
          injection hq with hq
          exact .inl ⟨rfl, rfl, hq.symm⟩
        · rw [hx _ (by omega) (by omega)] at hq
          exact .inr ⟨fun q => ei q.2, hq⟩
      · rw [if_neg e] at hq
        exact .inr ⟨fun q => e q.1, hq⟩
    rcases key m i u hu1 with ⟨rfl, rfl, rfl⟩ | ⟨n1, q1⟩
    · rcases key m' j v hv1 with ⟨rfl, rfl, rfl⟩ | ⟨n2, q2⟩
      · exact absurd ⟨rfl, rfl⟩ hne
      · rcases ha m' j v hm' n2 q2 with z | z | z
        · cases hz : u.ownBlock with
          | none => exact .inl rfl
          | some b => exact .inr (by rw [z]; simp)
        · exact .inl z
        · exact .inr fun y => z y.symm
    · rcases key m' j v hv1 with ⟨rfl, rfl, rfl⟩ | ⟨n2, q2⟩
      · rcases ha m i u hm n1 q1 with z | z | z
        · exact .inl z
        · cases hz : u.ownBlock with
          | none => exact .inl rfl
          | some b => exact .inr (by rw [z]; simp)
        · exact .inr z
      · exact h.apart m i m' j u v hm hm' hne q1 q2
end
/-- the plain device -/
structure DevP where
  f : Nat → List Sect
  left : Option Nat
  halted : Bool
def IsLeft (w : World) (F : Nat → Prop) (v : Value) : Option Nat → Prop
  | none => v = .pointer none
  | some n => ∃ gl, v = .pointer (some ⟨gl, 0, none⟩) ∧ F gl ∧ Blk w gl 3 #[.int .i64 n] ∧ n < 9223372036854775808
theorem IsLeft.only {w w' : World} {F S : Nat → Prop} {v : Value} {n : Option Nat} (h : IsLeft w F v n) (ho : Only S w w') (hs : ∀ b, F b → ¬ S b) : IsLeft w' F v n := by
  cases n with
  | none => exact h
  | some n =>
    obtain ⟨gl, e, hF, hb, hn⟩ := h
    exact ⟨gl, e, hF, hb.only ho (hs gl hF), hn⟩
theorem IsLeft.mono {w : World} {F F' : Nat → Prop} {v : Value} {n : Option Nat} (h : IsLeft w F v n) (hs : ∀ b, F b → F' b) : IsLeft w F' v n := by
  cases n with
  | none => exact h
  | some n =>
    obtain ⟨gl, e, hF, hb, hn⟩ := h
    exact ⟨gl, e, hs gl hF, hb, hn⟩
/-- the device as it lies: its block gp, the two rows, its pointer to what is left -/
structure DevAt (D : DevP) (w : World) (F : Nat → Prop) (gp : Nat) (s : Nat → Value) (lv : Value) (X : Nat → List Value) : Prop extends FilesAt 90 D.f w F s X where
  blk : Blk w gp 83 #[s 0, s 1, lv, .bool D.halted]
  inF : F gp
  left : IsLeft w F lv D.left
def IsDev (D : DevP) (w : World) (F : Nat → Prop) (p : Value) : Prop := ∃ gp s lv X, p = .pointer (some ⟨gp, 0, none⟩) ∧ DevAt D w F gp s lv X
section
variable {D : DevP} {w w' : World} {F F' S : Nat → Prop} {p : Value}
theorem IsDev.only (h : IsDev D w F p) (ho : Only S w w') (hs : ∀ b, F b → ¬ S b) : IsDev D w' F p := by
  obtain ⟨gp, s, lv, X, e, h⟩ := h
  exact ⟨gp, s, lv, X, e, h.toFilesAt.only ho hs, h.blk.only ho (hs gp h.inF), h.inF, h.left.only ho hs⟩
theorem IsDev.mono (h : IsDev D w F p) (hs : ∀ b, F b → F' b) : IsDev D w F' p := by
  obtain ⟨gp, s, lv, X, e, h⟩ := h
  exact ⟨gp, s, lv, X, e, h.toFilesAt.mono hs, h.blk, hs gp h.inF, h.left.mono hs⟩
/-- what is new since w is added -/
def grow (F : Nat → Prop) (w w' : World) (b : Nat) : Prop := F b ∨ (w.heap.size ≤ b ∧ b < w'.heap.size)
theorem IsDev.below (h : IsDev D w F p) (hb : Below w.heap.size w w') : IsDev D w' F p := h.only (Only.of_below hb (fun _ => False)) fun _ _ q => q
end
end Go.Proofs.Ytkganajbilnanaa


/- disk: file, at, goes, Halt, Halted. Conditions: the device lies there. -/
namespace Go.Proofs.Ytkganajbilnanaa
open Go.ChangeShapes Go.WideShapes Go.ChangeAt Go.RowKit
set_option linter.unusedVariables false
set_option linter.unusedSimpArgs false

section
variable {D : DevP} {w : World} {F : Nat → Prop} {gp : Nat} {s : Nat → Value} {lv : Value} {X : Nat → List Value}
theorem file_any (h : DevAt D w F gp s lv X) (n : Nat) (hn : n < 256) :
    Calls Try.prog 69 #[.pointer (some ⟨gp, 0, none⟩), .int .u8 n] w fun e w' => e = .returned (if n < 2 then s n else .slice none 0 0) ∧ w = w' := by
  have hb := h.blk.cell
  rcases (show n = 0 ∨ n = 1 ∨ 2 ≤ n from by omega) with rfl | rfl | h2
  · have c0 : w.cell? ⟨gp, 0, none⟩ = some (s 0) := hb 0
    clear h hb
    generalize s 0 = v at *
    go_enter Try.func69, Try.ntmps69
    go_wp2
    go_ret
    exact ⟨rfl, rfl⟩
  · have c1 : w.cell? ⟨gp, 1, none⟩ = some (s 1) := hb 1
    clear h hb
    generalize s 1 = v at *
    go_enter Try.func69, Try.ntmps69
    go_wp2
    go_ret
    exact ⟨rfl, rfl⟩
  · rw [if_neg (by omega)]
    have e1 : decide ((2 : Int) ≤ (n : Int)) = true := by rw [decide_eq_true_iff]; omega
    clear h hb
    go_enter Try.func69, Try.ntmps69
    go_wp2
    go_ret
    exact ⟨rfl, rfl⟩
theorem at_some (h : DevAt D w F gp s lv X) (n : Nat) (hn : n < 2) (k : Nat) (hk : k < (D.f n).length) (hL : (D.f n).length ≤ 4096) {g c : Nat} (hs : s n = .slice (some ⟨g, 0, none⟩) (D.f n).length c) :
    Calls Try.prog 58 #[.pointer (some ⟨gp, 0, none⟩), .int .u8 n, .int .i64 k] w fun e w' => e = .returned (.pointer (some ⟨g, 2 * k, none⟩)) ∧ w = w' := by
  have hf := file_any h n (by omega)
  rw [if_pos hn, hs] at hf
  generalize (D.f n).length = m at *
  have e1 : decide ((k : Int) < 0) = false := by rw [decide_eq_false_iff_not]; omega
  have e2 : decide ((m : Int) ≤ (k : Int)) = false := by rw [decide_eq_false_iff_not]; omega
  have e3 : (0 : Int) ≤ (k : Int) := by omega
  have e4 : (k : Int) < (m : Int) := by omega
  clear h
  go_enter Try.func58, Try.ntmps58
  go_wp2_with (go_at_call 69; refine hf.mono ?_; rintro e w1 ⟨rfl, rfl⟩)
  go_ret
  exact ⟨by first | rfl | (rw [Nat.mul_comm 2 k]; done) | (simp [Nat.mul_comm]; done) | (simp; omega), rfl⟩
theorem at_none (h : DevAt D w F gp s lv X) (n : Nat) (hn : n < 256) (i : Int) (hi : ¬ (n < 2 ∧ 0 ≤ i ∧ i < ((D.f n).length : Int))) :
    Calls Try.prog 58 #[.pointer (some ⟨gp, 0, none⟩), .int .u8 n, .int .i64 i] w fun e w' => e = .returned (.pointer none) ∧ w = w' := by
  have hf := file_any h n hn
  by_cases h0 : i < 0
  · have e1 : decide (i < 0) = true := by rw [decide_eq_true_iff]; omega
    generalize (if n < 2 then s n else Value.slice none 0 0) = v at *
    clear h
    go_enter Try.func58, Try.ntmps58
    go_wp2_with (go_at_call 69; refine hf.mono ?_; rintro e w1 ⟨rfl, rfl⟩)
    go_ret
    exact ⟨rfl, rfl⟩
  · have e1 : decide (i < 0) = false := by rw [decide_eq_false_iff_not]; omega
    have hv : ∃ A m c, (if n < 2 then s n else Value.slice none 0 0) = .slice A m c ∧ (m : Int) ≤ i := by
      by_cases hn2 : n < 2
      · rw [if_pos hn2]
        obtain ⟨A, c, e, -, -⟩ := own_form (h.file n hn2).1
        exact ⟨A, _, c, e, by omega⟩
      · rw [if_neg hn2]
        exact ⟨none, 0, 0, rfl, by omega⟩
    obtain ⟨A, m, c, ev, hm⟩ := hv
    rw [ev] at hf
    have e2 : decide ((m : Int) ≤ i) = true := by rw [decide_eq_true_iff]; omega
    clear h ev
    go_enter Try.func58, Try.ntmps58
    go_wp2_with (go_at_call 69; refine hf.mono ?_; rintro e w1 ⟨rfl, rfl⟩)
    go_ret
    exact ⟨rfl, rfl⟩
end
end Go.Proofs.Ytkganajbilnanaa


/- disk: newest, goes, Halted, Halt. Conditions: as stated. -/
namespace Go.Proofs.Ytkganajbilnanaa
open Go.ChangeShapes Go.WideShapes Go.ChangeAt Go.RowKit
set_option linter.unusedVariables false
set_option linter.unusedSimpArgs false

theorem newest_none (g o : Nat) (lv : Value) (Aw : Option Addr) (cw : Nat) (w : World) (c0 : w.cell? ⟨g, o, none⟩ = some lv) (c1 : w.cell? ⟨g, o + 1, none⟩ = some (.slice Aw 0 cw)) :
    Calls Try.prog 59 #[.pointer (some ⟨g, o, none⟩)] w fun e w' => e = .returned lv ∧ w = w' := by
  go_enter Try.func59, Try.ntmps59
  go_wp2
  go_ret
  exact ⟨rfl, rfl⟩
theorem newest_some (g o b2 o2 : Nat) (u : Value) (m cw : Nat) (w : World) (hm : m < 100000) (c1 : w.cell? ⟨g, o + 1, none⟩ = some (.slice (some ⟨b2, o2, none⟩) (m + 1) cw)) (c2 : w.cell? ⟨b2, o2 + m, none⟩ = some u) (hu : u.oneCell' = true) :
    Calls Try.prog 59 #[.pointer (some ⟨g, o, none⟩)] w fun e w' => e = .returned u ∧ w = w' := by
  have e1 : decide ((0 : Int) < ((m + 1 : Nat) : Int)) = true := by rw [decide_eq_true_iff]; omega
  have e2 : (((m + 1 : Nat) : Int)) - 1 = (m : Int) := by omega
  have e3 : (0 : Int) ≤ (m : Int) := by omega
  have e4 : (m : Int) < ((m + 1 : Nat) : Int) := by omega
  go_enter Try.func59, Try.ntmps59
  go_wp2
  go_ret
  exact ⟨rfl, rfl⟩
theorem goes_all (gp : Nat) (w : World) (c2 : w.cell? ⟨gp, 2, none⟩ = some (.pointer none)) :
    Calls Try.prog 81 #[.pointer (some ⟨gp, 0, none⟩)] w fun e w' => e = .returned (.bool true) ∧ w = w' := by
  go_enter Try.func81, Try.ntmps81
  go_wp2
  go_ret
  exact ⟨rfl, rfl⟩
theorem goes_zero (gp gl : Nat) (v : Value) (w : World) (c2 : w.cell? ⟨gp, 2, none⟩ = some (.pointer (some ⟨gl, 0, none⟩))) (c3 : w.cell? ⟨gp, 3, none⟩ = some v) (f3 : w.frozen? ⟨gp, 3, none⟩ = false) (cl : w.cell? ⟨gl, 0, none⟩ = some (.int .i64 0)) :
    Calls Try.prog 81 #[.pointer (some ⟨gp, 0, none⟩)] w fun e w' => e = .returned (.bool false) ∧ w' = w.setCell ⟨gp, 3, none⟩ (.bool true) := by
  go_enter Try.func81, Try.ntmps81
  go_wp2
  go_ret
  exact ⟨rfl, rfl⟩
theorem goes_more (gp gl n : Nat) (hn : n + 1 < 9223372036854775808) (w : World) (c2 : w.cell? ⟨gp, 2, none⟩ = some (.pointer (some ⟨gl, 0, none⟩))) (cl : w.cell? ⟨gl, 0, none⟩ = some (.int .i64 ((n + 1 : Nat) : Int))) (fl : w.frozen? ⟨gl, 0, none⟩ = false) :
    Calls Try.prog 81 #[.pointer (some ⟨gp, 0, none⟩)] w fun e w' => e = .returned (.bool true) ∧ w' = w.setCell ⟨gl, 0, none⟩ (.int .i64 (n : Int)) := by
  have e1 : (((n + 1 : Nat) : Int) == 0) = false := by rw [beq_eq_false_iff_ne]; omega
  obtain ⟨m, hm⟩ : ∃ m : Nat, n + 1 = m := ⟨_, rfl⟩
  rw [hm] at cl e1
  have e2 : (m : Int) - 1 = (n : Int) := by omega
  have e3 : IntKind.i64.wrap (n : Int) = (n : Int) := by rw [IntKind.wrap_i64]; omega
  clear hm
  go_enter Try.func81, Try.ntmps81
  go_wp2
  go_ret
  exact ⟨rfl, rfl⟩
theorem halted_any (gp : Nat) (h : Bool) (w : World) (c3 : w.cell? ⟨gp, 3, none⟩ = some (.bool h)) :
    Calls Try.prog 30 #[.pointer (some ⟨gp, 0, none⟩)] w fun e w' => e = .returned (.bool h) ∧ w = w' := by
  go_enter Try.func30, Try.ntmps30
  go_wp2
  go_ret
  exact ⟨rfl, rfl⟩
end Go.Proofs.Ytkganajbilnanaa


/- disk: Halt. Conditions: as stated. -/
namespace Go.Proofs.Ytkganajbilnanaa
open Go.ChangeShapes Go.WideShapes Go.ChangeAt Go.RowKit
set_option linter.unusedVariables false
set_option linter.unusedSimpArgs false

theorem halt_any (gp : Nat) (n : Int) (v : Value) (w : World) (c2 : w.cell? ⟨gp, 2, none⟩ = some v) (f2 : w.frozen? ⟨gp, 2, none⟩ = false) (hg : gp < w.heap.size) (hv : v.oneCell' = true) :
    Calls Try.prog 15 #[.pointer (some ⟨gp, 0, none⟩), .int .i64 n] w fun e w' => e = .returned (.tuple #[]) ∧ w' = (w.setCell ⟨gp, 2, none⟩ (.pointer (some ⟨w.heap.size, 0, none⟩))).alloc (.cells #[.int .i64 (max n 0)] 3) := by
  have hne : gp ≠ w.heap.size := by omega
  have hne2 : w.heap.size ≠ gp := by omega
  by_cases h0 : n < 0
  · have e0 : max n 0 = 0 := by omega
    rw [e0]
    have e1 : ¬ (0 ≤ n) := by omega
    clear e0
    go_enter Try.func15, Try.ntmps15
    go_wp2
    go_end0
    exact ⟨rfl, rfl⟩
  · have e0 : max n 0 = n := by omega
    rw [e0]
    have e1 : 0 ≤ n := by omega
    clear e0
    go_enter Try.func15, Try.ntmps15
    go_wp2
    go_end0
    exact ⟨rfl, rfl⟩
end Go.Proofs.Ytkganajbilnanaa


/- disk: Size. Conditions: the device lies there. -/
namespace Go.Proofs.Ytkganajbilnanaa
open Go.ChangeShapes Go.WideShapes Go.ChangeAt Go.RowKit
set_option linter.unusedVariables false
set_option linter.unusedSimpArgs false

def DevP.size (D : DevP) (n : Nat) : Nat := if n < 2 then (D.f n).length else 0
section
variable {D : DevP} {w : World} {F : Nat → Prop} {gp : Nat} {s : Nat → Value} {lv : Value} {X : Nat → List Value}
theorem file_form (h : DevAt D w F gp s lv X) (n : Nat) : ∃ A c, (if n < 2 then s n else Value.slice none 0 0) = .slice A (D.size n) c := by
  unfold DevP.size
  by_cases hn2 : n < 2
  · rw [if_pos hn2, if_pos hn2]
    obtain ⟨A, c, e, -, -⟩ := own_form (h.file n hn2).1
    exact ⟨A, c, e⟩
  · rw [if_neg hn2, if_neg hn2]
    exact ⟨none, 0, rfl⟩
theorem size_any (h : DevAt D w F gp s lv X) (n : Nat) (hn : n < 256) :
    Calls Try.prog 48 #[.pointer (some ⟨gp, 0, none⟩), .int .u8 n] w fun e w' => e = .returned (.int .i64 (D.size n : Nat)) ∧ w = w' := by
  have hf := file_any h n hn
  obtain ⟨A, c, e⟩ := file_form h n
  rw [e] at hf
  generalize D.size n = m at *
  clear h e
  go_enter Try.func48, Try.ntmps48
  go_wp2_with (go_at_call 69; refine hf.mono ?_; rintro e w1 ⟨rfl, rfl⟩)
  go_ret
  exact ⟨rfl, rfl⟩
end
end Go.Proofs.Ytkganajbilnanaa


/- disk: Waits. Conditions: the device lies there. -/
namespace Go.Proofs.Ytkganajbilnanaa
open Go.ChangeShapes Go.WideShapes Go.ChangeAt Go.RowKit
set_option linter.unusedVariables false
set_option linter.unusedSimpArgs false

/-- is there such a sector? -/
def DevP.has (D : DevP) (n : Nat) (i : Int) : Prop := n < 2 ∧ 0 ≤ i ∧ i < ((D.f n).length : Int)
section
variable {D : DevP} {w : World} {F : Nat → Prop} {gp : Nat} {s : Nat → Value} {lv : Value} {X : Nat → List Value}
/-- a sector, where it lies -/
theorem sector_at (h : DevAt D w F gp s lv X) {n : Nat} (hn : n < 2) {k : Nat} (hk : k < (D.f n).length) :
    ∃ g c lv wv, s n = .slice (some ⟨g, 0, none⟩) (D.f n).length c ∧ w.cell? ⟨g, 2 * k, none⟩ = some lv ∧ w.cell? ⟨g, 2 * k + 1, none⟩ = some wv ∧ Txt w F lv (D.f n)[k].last ∧ IsWaits w F wv (D.f n)[k].waits ∧ F g ∧ g < w.heap.size ∧ (X n)[2 * k]? = some lv ∧ (X n)[2 * k + 1]? = some wv := by
  obtain ⟨ho, hF, hs⟩ := h.file n hn
  obtain ⟨lv, wv, e1, e2, e3, e4⟩ := hs k _ (List.getElem?_eq_getElem hk)
  obtain ⟨A, c, e, -, -⟩ := own_form ho
  rw [e] at ho hF
  obtain ⟨g, rfl, hg, hg'⟩ := own_pos ho (by omega)
  exact ⟨g, c, lv, wv, e, (ho.cellAt _ (by omega)).trans e1, (ho.cellAt _ (by omega)).trans e2, e3, e4, hF g rfl, hg', e1, e2⟩
end
end Go.Proofs.Ytkganajbilnanaa


/- disk: Read. Conditions: the device lies there. -/
namespace Go.Proofs.Ytkganajbilnanaa
open Go.ChangeShapes Go.WideShapes Go.ChangeAt Go.RowKit
set_option linter.unusedVariables false
set_option linter.unusedSimpArgs false

/-- what was written last -/
def Sect.newest (s : Sect) : List Nat := s.waits.getLast?.getD s.last
section
variable {D : DevP} {w : World} {F : Nat → Prop} {gp : Nat} {s : Nat → Value} {lv : Value} {X : Nat → List Value}
/-- newest: a text -/
theorem newest_any (h : DevAt D w F gp s lv X) {n : Nat} (hn : n < 2) {k : Nat} (hk : k < (D.f n).length) (hL : (D.f n)[k].waits.length ≤ 100000) {g c : Nat} (es : s n = .slice (some ⟨g, 0, none⟩) (D.f n).length c) :
    Calls Try.prog 59 #[.pointer (some ⟨g, 2 * k, none⟩)] w fun e w' => (∃ u, e = .returned u ∧ Txt w F u (D.f n)[k].newest) ∧ w = w' := by
  obtain ⟨g', c', lv', wv, es', q0, q1, ht, hw, -⟩ := sector_at h hn hk
  rw [es] at es'
  injection es' with e1 _ _
  injection e1 with e1
  injection e1 with e1 _
  subst e1
  generalize (D.f n)[k] = sc at *
  obtain ⟨L, ho, hF, hT⟩ := hw
  unfold Sect.newest
  rcases Nat.eq_zero_or_pos sc.waits.length with h0 | h0
  · obtain ⟨A, c2, rfl, -, -⟩ := own_form ho
    rw [h0] at q1
    have e : sc.waits = [] := List.length_eq_zero_iff.1 h0
    rw [e]
    exact (newest_none g (2 * k) lv' A c2 w q0 q1).mono fun e w' hh => ⟨⟨lv', hh.1, ht⟩, hh.2⟩
  · obtain ⟨A, c2, rfl, -, -⟩ := own_form ho
    obtain ⟨b2, rfl, hb2, hb2'⟩ := own_pos ho h0
    obtain ⟨m, hm⟩ : ∃ m, sc.waits.length = m + 1 := ⟨sc.waits.length - 1, by omega⟩
    have hLl : L.length = m + 1 := by have := ho.1; omega
    have hu : L[m]? = some (L[m]'(by omega)) := List.getElem?_eq_getElem (by omega)
    have hl : sc.waits[m]? = some (sc.waits[m]'(by omega)) := List.getElem?_eq_getElem (by omega)
    have hx := hT m _ _ hu hl
    have e : sc.waits.getLast?.getD sc.last = sc.waits[m]'(by omega) := by
      have e' : sc.waits.length - 1 = m := by omega
      rw [List.getLast?_eq_getElem?, e', hl]; rfl
    rw [e]
    have qc : w.cell? ⟨b2, 0 + m, none⟩ = some (L[m]'(by omega)) := by rw [Nat.zero_add]; exact (ho.cellAt m (by omega)).trans hu
    rw [hm] at q1
    have h1 : (L[m]'(by omega)).oneCell' = true := by obtain ⟨A, c, e, _⟩ := hx; rw [e]; rfl
    exact (newest_some g (2 * k) b2 0 _ m c2 w (by omega) q1 qc h1).mono fun e w' hh => ⟨⟨_, hh.1, hx⟩, hh.2⟩
/-- bytes of its own, and a number -/
def RetB2 (l : List Nat) (no : Int) (w : World) (e : Ending) (w' : World) : Prop :=
  ∃ A c, e = .returned (.tuple #[.slice A l.length c, .int .u16 no]) ∧ w'.ownsRow w.heap.size 5 1 (.slice A l.length c) l.length (l.map byteV) ∧ Below w.heap.size w w' ∧ Small l
theorem read_none (h : DevAt D w F gp s lv X) (n : Nat) (hn : n < 256) (i : Int) (hi : ¬ D.has n i) :
    Calls Try.prog 38 #[.pointer (some ⟨gp, 0, none⟩), .int .u8 n, .int .i64 i] w fun e w' => e = .returned (.tuple #[.slice none 0 0, .int .u16 50]) ∧ w = w' := by
  have ha := at_none h n hn i hi
  clear h
  go_enter Try.func38, Try.ntmps38
  go_wp2_with (go_at_call 58; refine ha.mono ?_; rintro e w1 ⟨rfl, rfl⟩)
  go_ret2
  exact ⟨rfl, rfl⟩
theorem read_some (h : DevAt D w F gp s lv X) (n : Nat) (hn : n < 2) (k : Nat) (hk : k < (D.f n).length) (hL : (D.f n).length ≤ 4096) (hw : (D.f n)[k].waits.length ≤ 100000) (hl : (D.f n)[k].newest.length ≤ 1000000) :
    Calls Try.prog 38 #[.pointer (some ⟨gp, 0, none⟩), .int .u8 n, .int .i64 k] w (RetB2 (D.f n)[k].newest 0 w) := by
  obtain ⟨g, c, _, _, es, -⟩ := sector_at h hn hk
  have ha := at_some h n hn k hk hL es
  have hnw := newest_any h hn hk hw es
  generalize (D.f n)[k].newest = l at *
  clear h
  go_enter Try.func38, Try.ntmps38
  go_wp2_with fail
  refine ha.mono ?_
  rintro e w1 ⟨rfl, rfl⟩
  go_wp2_with fail
  refine hnw.mono ?_
  rintro e w1 ⟨⟨u, rfl, ht⟩, rfl⟩
  obtain ⟨A, c1, rfl, hc1, hb⟩ := ht.bytes
  have hcl := clone_any A c1 l _ w hb (Nat.le_refl _) hl
  clear ht
  go_wp2_with fail
  refine hcl.mono ?_
  rintro e w2 ⟨A2, c2, rfl, ho, hb2, hs⟩
  go_wp2
  go_ret2
  exact ⟨A2, c2, rfl, ho, hb2, hs⟩
end
end Go.Proofs.Ytkganajbilnanaa


/- disk: goes, by the device. Conditions: the device lies there. -/
namespace Go.Proofs.Ytkganajbilnanaa
open Go.ChangeShapes Go.WideShapes Go.ChangeAt Go.RowKit
set_option linter.unusedVariables false
set_option linter.unusedSimpArgs false

/-- one more call: is it done? what is the device then? -/
def DevP.goes (D : DevP) : Bool × DevP :=
  match D.left with
  | none => (true, D)
  | some 0 => (false, { D with halted := true })
  | some (m + 1) => (true, { D with left := some m })
theorem DevP.goes_f (D : DevP) : D.goes.2.f = D.f := by
  unfold DevP.goes
  split <;> rfl
section
variable {D : DevP} {w : World} {F : Nat → Prop} {gp : Nat} {s : Nat → Value} {lv : Value} {X : Nat → List Value}
/-- blocks of a device that hold no bytes -/
def Hard (F : Nat → Prop) (w : World) (b : Nat) : Prop := F b ∧ ¬ U8 w b
theorem goes_any (h : DevAt D w F gp s lv X) :
    Calls Try.prog 81 #[.pointer (some ⟨gp, 0, none⟩)] w fun e w' => e = .returned (.bool D.goes.1) ∧ DevAt D.goes.2 w' F gp s lv X ∧ Only (Hard F w) w w' := by
  obtain ⟨f, left, halted⟩ := D
  have hb := h.blk.cell
  have hgp : ¬ U8 w gp := fun q => absurd (q.uniq' h.blk.ty) (by decide)
  cases left with
  | none =>
    have c2 : w.cell? ⟨gp, 2, none⟩ = some (.pointer none) := by
      have e : lv = .pointer none := h.left
      subst e
      exact hb 2
    exact (goes_all gp w c2).mono fun e w' ⟨h1, h2⟩ => by
      subst h2
      exact ⟨h1, h, Only.refl _ _⟩
  | some n =>
    obtain ⟨gl, e, hFl, hbl, hn⟩ := h.left
    subst e
    have hgl : ¬ U8 w gl := fun q => absurd (q.uniq' hbl.ty) (by decide)
    have c2 : w.cell? ⟨gp, 2, none⟩ = some (.pointer (some ⟨gl, 0, none⟩)) := hb 2
    have cl : w.cell? ⟨gl, 0, none⟩ = some (.int .i64 n) := hbl.cell 0
    cases n with
    | zero =>
      have c3 : w.cell? ⟨gp, 3, none⟩ = some (.bool halted) := hb 3
      refine (goes_zero gp gl _ w c2 c3 (h.blk.frozen 3) cl).mono fun e w' ⟨h1, h2⟩ => ?_
      subst h2
      have ho : Only (fun b => b = gp) w (w.setCell ⟨gp, 3, none⟩ (.bool true)) := (Only.refl (fun b => b = gp) _).setCell (p := ⟨gp, 3, none⟩) (.inl rfl) _
      have hfar : Far w 90 (fun b => b = gp) := fun b q hb => by
        subst q
        exact ⟨_, h.blk.ty, by decide, by decide, by decide⟩
      have hne : gl ≠ gp := fun q => by
        subst q
        exact absurd (hbl.ty.uniq h.blk.ty) (by decide)
      exact ⟨h1, ⟨h.toFilesAt.far ho hfar, h.blk.set_ 3 _, h.inF, ⟨gl, rfl, hFl, hbl.far hne _, hn⟩⟩, ho.mono fun b q => .inl (by subst q; exact ⟨h.inF, hgp⟩)⟩
    | succ m =>
      refine (goes_more gp gl m hn w c2 cl (hbl.frozen 0)).mono fun e w' ⟨h1, h2⟩ => ?_
      subst h2
      have ho : Only (fun b => b = gl) w (w.setCell ⟨gl, 0, none⟩ (.int .i64 m)) := (Only.refl (fun b => b = gl) _).setCell (p := ⟨gl, 0, none⟩) (.inl rfl) _
      have hfar : Far w 90 (fun b => b = gl) := fun b q hb => by
        subst q
        exact ⟨_, hbl.ty, by decide, by decide, by decide⟩
      have hne : gp ≠ gl := fun q => by
        subst q
        exact absurd (hbl.ty.uniq h.blk.ty) (by decide)
      exact ⟨h1, ⟨h.toFilesAt.far ho hfar, h.blk.far hne _, h.inF, ⟨gl, rfl, hFl, hbl.set_ 0 _, by omega⟩⟩, ho.mono fun b q => .inl (by subst q; exact ⟨hFl, hgl⟩)⟩
end
end Go.Proofs.Ytkganajbilnanaa


/- The plain device: what each call answers, what is left. Conditions: none; no program in sight. -/
namespace Go.Proofs.Ytkganajbilnanaa
set_option linter.unusedVariables false
set_option linter.unusedSimpArgs false

/-- each list of a sector has 128 bytes, no more than N wait; no more than 4096 sectors -/
def DevP.good (D : DevP) (N : Nat) : Prop := ∀ n, n < 2 → (D.f n).length ≤ 4096 ∧ ∀ s ∈ D.f n, s.last.length = 128 ∧ s.waits.length ≤ N ∧ ∀ l ∈ s.waits, l.length = 128
theorem DevP.good.mono {D : DevP} {N M : Nat} (h : D.good N) (hm : N ≤ M) : D.good M := fun n hn => ⟨(h n hn).1, fun s hs => ⟨((h n hn).2 s hs).1, Nat.le_trans ((h n hn).2 s hs).2.1 hm, ((h n hn).2 s hs).2.2⟩⟩
theorem DevP.good.at_ {D : DevP} {N : Nat} (h : D.good N) {n : Nat} (hn : n < 2) {k : Nat} (hk : k < (D.f n).length) : (D.f n)[k].last.length = 128 ∧ (D.f n)[k].waits.length ≤ N ∧ ∀ l ∈ (D.f n)[k].waits, l.length = 128 := (h n hn).2 _ (List.getElem_mem hk)
theorem newest_128 {s : Sect} (h1 : s.last.length = 128) (h2 : ∀ l ∈ s.waits, l.length = 128) : s.newest.length = 128 := by
  unfold Sect.newest
  cases h : s.waits.getLast? with
  | none => exact h1
  | some l => exact h2 l (List.mem_of_getLast? h)
theorem DevP.good.goes {D : DevP} {N : Nat} (h : D.good N) : D.goes.2.good N := fun n hn => by rw [DevP.goes_f]; exact h n hn

def DevP.put (D : DevP) (n k : Nat) (s : Sect) : DevP := { D with f := putD D.f n k s }
/-- a sector and one more that waits -/
def Sect.more (s : Sect) (l : List Nat) : Sect := ⟨s.last, s.waits ++ [l]⟩
def DevP.sect (D : DevP) (n k : Nat) : Sect := (D.f n)[k]?.getD ⟨[], []⟩
theorem DevP.sect_eq {D : DevP} {n k : Nat} (hk : k < (D.f n).length) : D.sect n k = (D.f n)[k] := by
  unfold DevP.sect
  rw [List.getElem?_eq_getElem hk]
  rfl
instance (D : DevP) (n : Nat) (i : Int) : Decidable (D.has n i) := by unfold DevP.has; exact inferInstance
/-- Write -/
def DevP.write (D : DevP) (n : Nat) (i : Int) (l : List Nat) : Nat × DevP :=
  if D.has n i then (if l.length = 128 then (0, if D.goes.1 then D.goes.2.put n i.toNat ((D.sect n i.toNat).more l) else D.goes.2) else (1, D)) else (50, D)
/-- Read -/
def DevP.read (D : DevP) (n : Nat) (i : Int) : List Nat × Nat := if D.has n i then ((D.sect n i.toNat).newest, 0) else ([], 50)
def DevP.waits (D : DevP) (n : Nat) (i : Int) : Nat := if D.has n i then (D.sect n i.toNat).waits.length else 0
def mapF (D : DevP) (n : Nat) (g : Nat → Sect → Sect) (m : Nat) : List Sect := if m = n then (D.f m).mapIdx g else D.f m
/-- Sync -/
def DevP.sync (D : DevP) (n : Nat) : DevP := if n < 2 then (if D.goes.1 then { D.goes.2 with f := mapF D n fun _ s => ⟨s.newest, []⟩ } else D.goes.2) else D
def DevP.halt (D : DevP) (n : Int) : DevP := { D with left := some (max n 0).toNat }
def DevP.image (D : DevP) (n : Nat) : List (List Nat) := if n < 2 then (D.f n).map Sect.last else []
/-- what a crash does to a sector -/
structure FateP where
  file : Nat
  sector : Int
  keep : Int
  torn : Int
def FateP.zero : FateP := ⟨0, 0, 0, 0⟩
def fateFor (l : List FateP) (n k : Nat) : FateP := (l.find? fun x => decide (x.file = n) && decide (x.sector = (k : Int))).getD FateP.zero
/-- how many are kept -/
def keepN (s : Sect) (f : FateP) : Nat := min (max f.keep 0).toNat s.waits.length
def keptL (s : Sect) (k : Nat) : List Nat := if k = 0 then s.last else s.waits[k - 1]?.getD []
def Sect.crash (s : Sect) (f : FateP) : Sect :=
  ⟨if keepN s f < s.waits.length then (s.waits[keepN s f]?.getD []).take (min (max f.torn 0).toNat 128) ++ (keptL s (keepN s f)).drop (min (max f.torn 0).toNat 128) else keptL s (keepN s f), []⟩
def DevP.crash (D : DevP) (l : List FateP) : DevP := ⟨fun n => (D.f n).mapIdx fun k s => s.crash (fateFor l n k), none, false⟩
def DevP.new (a b : Nat) : DevP := ⟨fun n => List.replicate (if n = 0 then a else if n = 1 then b else 0) ⟨List.replicate 128 0, []⟩, none, false⟩

theorem putD_length (f : Nat → List Sect) (n k : Nat) (s : Sect) (m : Nat) : (putD f n k s m).length = (f m).length := by
  unfold putD
  split
  · rw [List.length_set]
  · rfl
theorem DevP.good.put {D : DevP} {N : Nat} (h : D.good N) {n k : Nat} {s : Sect} (h1 : s.last.length = 128) (h2 : s.waits.length ≤ N) (h3 : ∀ l ∈ s.waits, l.length = 128) : (D.put n k s).good N := fun m hm => by
  refine ⟨by show (putD D.f n k s m).length ≤ _; rw [putD_length]; exact (h m hm).1, fun s' hs => ?_⟩
  have : s' ∈ putD D.f n k s m := hs
  unfold putD at this
  split at this
  · rcases List.mem_or_eq_of_mem_set this with q | q
    · exact (h m hm).2 s' q
    · subst q
      exact ⟨h1, h2, h3⟩
  · exact (h m hm).2 s' this
theorem DevP.good.write {D : DevP} {N : Nat} (h : D.good N) (n : Nat) (i : Int) (l : List Nat) : (D.write n i l).2.good (N + 1) := by
  unfold DevP.write
  split
  · rename_i hh
    obtain ⟨h1, h2, h3⟩ := hh
    split
    · rename_i hl
      split
      · have hk : i.toNat < (D.f n).length := by omega
        obtain ⟨q1, q2, q3⟩ := h.at_ h1 hk
        rw [DevP.sect_eq hk]
        refine (h.goes.mono (Nat.le_succ N)).put q1 (by simp [Sect.more]; exact q2) fun x hx => ?_
        rcases List.mem_append.1 hx with z | z
        · exact q3 x z
        · rw [List.mem_singleton.1 z]; exact hl
      · exact h.goes.mono (Nat.le_succ N)
    · exact h.mono (Nat.le_succ N)
  · exact h.mono (Nat.le_succ N)
theorem mapF_length (D : DevP) (n : Nat) (g : Nat → Sect → Sect) (m : Nat) : (mapF D n g m).length = (D.f m).length := by
  unfold mapF
  split
  · rw [List.length_mapIdx]
  · rfl
theorem DevP.good.sync {D : DevP} {N : Nat} (h : D.good N) (n : Nat) : (D.sync n).good N := by
  unfold DevP.sync
  split
  · split
    · intro m hm
      refine ⟨by show (mapF D n _ m).length ≤ _; rw [mapF_length]; exact (h m hm).1, fun s' hs => ?_⟩
      have : s' ∈ mapF D n (fun _ s => ⟨s.newest, []⟩) m := hs
      unfold mapF at this
      split at this
      · obtain ⟨i, hi, rfl⟩ := List.mem_mapIdx.1 this
        obtain ⟨q1, q2, q3⟩ := h.at_ hm hi
        exact ⟨newest_128 q1 q3, Nat.zero_le _, fun x hx => by cases hx⟩
      · exact (h m hm).2 s' this
    · exact h.goes
  · exact h
theorem keptL_128 {s : Sect} (h1 : s.last.length = 128) (h2 : ∀ l ∈ s.waits, l.length = 128) {k : Nat} (hk : k ≤ s.waits.length) : (keptL s k).length = 128 := by
  unfold keptL
  split
  · exact h1
  · rw [List.getElem?_eq_getElem (by omega)]
    exact h2 _ (List.getElem_mem _)
theorem crash_128 {s : Sect} (h1 : s.last.length = 128) (h2 : ∀ l ∈ s.waits, l.length = 128) (f : FateP) : (s.crash f).last.length = 128 := by
  have hk : keepN s f ≤ s.waits.length := Nat.min_le_right _ _
  have q := keptL_128 h1 h2 hk
  unfold Sect.crash
  dsimp only
  split
  · rename_i hlt
    rw [List.length_append, List.length_take, List.length_drop, q, List.getElem?_eq_getElem hlt, Option.getD_some, h2 _ (List.getElem_mem _)]
    omega
  · exact q
theorem DevP.good.crash {D : DevP} {N : Nat} (h : D.good N) (l : List FateP) : (D.crash l).good 0 := fun n hn => by
  refine ⟨by show ((D.f n).mapIdx _).length ≤ _; rw [List.length_mapIdx]; exact (h n hn).1, fun s' hs => ?_⟩
  have : s' ∈ (D.f n).mapIdx fun k s => s.crash (fateFor l n k) := hs
  obtain ⟨i, hi, rfl⟩ := List.mem_mapIdx.1 this
  obtain ⟨q1, q2, q3⟩ := h.at_ hn hi
  exact ⟨crash_128 q1 q3 _, Nat.zero_le _, fun x hx => by cases hx⟩
theorem DevP.good_new {a b : Nat} (ha : a ≤ 4096) (hb : b ≤ 4096) : (DevP.new a b).good 0 := fun n hn => by
  refine ⟨?_, fun s hs => ?_⟩
  · show (List.replicate _ _).length ≤ _
    rw [List.length_replicate]
    split
    · exact ha
    · split
      · exact hb
      · omega
  · have : s ∈ List.replicate (if n = 0 then a else if n = 1 then b else 0) (⟨List.replicate 128 0, []⟩ : Sect) := hs
    rw [(List.mem_replicate.1 this).2]
    exact ⟨List.length_replicate .., Nat.zero_le _, fun x hx => by cases hx⟩
end Go.Proofs.Ytkganajbilnanaa
