/- How a device lies in memory: sectors, what waits, their blocks. Conditions: none. -/
import Derived.Test.YtnbbneldbagohaaRef
import Derived.Test.YtnbbneldbagohaaFrames
import Derived.Test.YtnbbneldbagohaaBrows
import Derived.Test.YtnbbneldbagohaaSteps
namespace Go.Proofs.Ytnbbneldbagohaa
open Go.ChangeShapes Go.WideShapes Go.ChangeAt Go.RowKit
set_option linter.unusedVariables false
set_option linter.unusedSimpArgs false

/-- a block of bytes -/
def U8 (w : World) (b : Nat) : Prop := ∃ cs f, w.heap[b]? = some (.cells cs 5 f)
/-- a slice of bytes that is only read: its bytes lie in blocks of bytes in F -/
def Txt (w : World) (F : Nat → Prop) (v : Value) (l : List Nat) : Prop := ∃ A c, v = .slice A l.length c ∧ l.length ≤ c ∧ BytesIn w (fun b => F b ∧ U8 w b) A l
section
variable {w w' : World} {F F' S : Nat → Prop} {v : Value} {l : List Nat}
theorem U8.only {b : Nat} (h : U8 w b) (hb : b < w.heap.size) (ho : Only S w w') (hs : ¬ S b) : U8 w' b := by
  obtain ⟨cs, f, h⟩ := h
  exact ⟨cs, f, (ho.block b hb hs).trans h⟩
theorem U8.uniq' {b : Nat} {t : TypeId} (h : U8 w b) (h' : ∃ cs f, w.heap[b]? = some (.cells cs t f)) : 5 = t := by
  obtain ⟨cs, f, h⟩ := h
  obtain ⟨cs', f', h'⟩ := h'
  rw [h] at h'
  injection h' with h'
  injection h'
theorem U8.lt {b : Nat} (h : U8 w b) : b < w.heap.size := by
  obtain ⟨cs, f, h⟩ := h
  exact (Array.getElem?_eq_some_iff.1 h).1
theorem Txt.bytes (h : Txt w F v l) : ∃ A c, v = .slice A l.length c ∧ l.length ≤ c ∧ Bytes w w.heap.size A l := by
  obtain ⟨A, c, e, hc, hb⟩ := h
  exact ⟨A, c, e, hc, hb.bytes⟩
theorem Txt.only (h : Txt w F v l) (ho : Only S w w') (hs : ∀ b, F b → U8 w b → ¬ S b) : Txt w' F v l := by
  obtain ⟨A, c, e, hc, hb⟩ := h
  refine ⟨A, c, e, hc, ?_, hb.2⟩
  intro j hj
  obtain ⟨b, o, e, ⟨h1, h2⟩, h3, h4⟩ := hb.1 j hj
  exact ⟨b, o, e, ⟨h1, h2.only h3 ho (hs b h1 h2)⟩, Nat.lt_of_lt_of_le h3 ho.size, (ho.cell (p := ⟨b, o + j, none⟩) h3 (hs b h1 h2)).trans h4⟩
theorem Txt.mono (h : Txt w F v l) (hs : ∀ b, F b → U8 w b → F' b) : Txt w F' v l := by
  obtain ⟨A, c, e, hc, hb⟩ := h
  exact ⟨A, c, e, hc, hb.mono fun b q => ⟨hs b q.1 q.2, q.2⟩⟩
/-- a row of bytes of one's own is a text -/
theorem Txt.own {base n c : Nat} {A : Option Addr} (h : w.ownsRow base 5 1 (.slice A n c) n (l.map byteV)) (hn : l.length = n) (hl : Small l) (hF : ∀ b, (Value.slice A n c).ownBlock = some b → F b) : Txt w F (.slice A n c) l := by
  subst hn
  refine ⟨A, c, rfl, own_cap h, ?_, hl⟩
  intro j hj
  have hj' : j < l.length := by simpa using hj
  obtain ⟨g, rfl, hg, hg'⟩ := own_pos h (by omega)
  refine ⟨g, 0, rfl, ⟨hF g rfl, ?_⟩, hg', ?_⟩
  · rcases h.2 with ⟨e, _⟩ | ⟨g', cap', cur', e, _, hgb, _⟩
    · cases e
    · injection e with e _ _
      injection e with e
      injection e with e _
      subst e
      exact ⟨cur', _, hgb⟩
  · rw [Nat.zero_add, h.cellAt j (by omega), List.getElem?_eq_getElem hj]
end

/-- a sector: what lasts, what waits -/
structure Sect where
  last : List Nat
  waits : List (List Nat)
/-- what waits: a row of one's own, whose elements are texts -/
def IsWaits (w : World) (F : Nat → Prop) (v : Value) (ws : List (List Nat)) : Prop :=
  ∃ L, w.ownsRow 0 28 1 v ws.length L ∧ (∀ b, v.ownBlock = some b → F b) ∧ ∀ (j : Nat) (u : Value) (l : List Nat), L[j]? = some u → ws[j]? = some l → Txt w F u l
section
variable {w w' : World} {F F' S : Nat → Prop} {v : Value} {ws : List (List Nat)}
theorem IsWaits.only (h : IsWaits w F v ws) (ho : Only S w w') (hs : ∀ b, F b → U8 w b → ¬ S b) (hv : ∀ b, v.ownBlock = some b → ¬ S b) : IsWaits w' F v ws := by
  obtain ⟨L, h1, h2, h3⟩ := h
  exact ⟨L, ho.own h1 hv, h2, fun j u l hu hl => (h3 j u l hu hl).only ho hs⟩
theorem IsWaits.mono (h : IsWaits w F v ws) (hs : ∀ b, F b → F' b) : IsWaits w F' v ws := by
  obtain ⟨L, h1, h2, h3⟩ := h
  exact ⟨L, h1, fun b e => hs b (h2 b e), fun j u l hu hl => (h3 j u l hu hl).mono fun b q _ => hs b q⟩
theorem IsWaits.nil (w : World) (F : Nat → Prop) : IsWaits w F (.slice none 0 0) [] :=
  ⟨[], World.ownsRow_nil _ _ _ _, (fun b e => by cases e), fun j u l hu => by cases hu⟩
end
/-- a file: a row of sectors of type ts; xs: its cells, two a sector -/
def IsFile (ts : TypeId) (w : World) (F : Nat → Prop) (v : Value) (xs : List Value) (ss : List Sect) : Prop :=
  w.ownsRow 0 ts 2 v ss.length xs ∧ (∀ b, v.ownBlock = some b → F b) ∧ ∀ (i : Nat) (s : Sect), ss[i]? = some s → ∃ lv wv, xs[2 * i]? = some lv ∧ xs[2 * i + 1]? = some wv ∧ Txt w F lv s.last ∧ IsWaits w F wv s.waits
/-- what waits lies apart, sector by sector, in both files -/
def Apart (X : Nat → List Value) : Prop := ∀ f i g j u v, f < 2 → g < 2 → ¬ (f = g ∧ i = j) → (X f)[2 * i + 1]? = some u → (X g)[2 * j + 1]? = some v → u.ownBlock = none ∨ u.ownBlock ≠ v.ownBlock
section
variable {w w' : World} {F F' S : Nat → Prop} {v : Value} {xs : List Value} {ss : List Sect} {ts : TypeId}
theorem IsFile.only (h : IsFile ts w F v xs ss) (ho : Only S w w') (hs : ∀ b, F b → ¬ S b) : IsFile ts w' F v xs ss := by
  obtain ⟨h1, h2, h3⟩ := h
  refine ⟨ho.own h1 (fun k e => hs k (h2 k e)), h2, fun i s e => ?_⟩
  obtain ⟨lv, wv, e1, e2, e3, e4⟩ := h3 i s e
  refine ⟨lv, wv, e1, e2, e3.only ho fun b q _ => hs b q, e4.only ho (fun b q _ => hs b q) ?_⟩
  obtain ⟨L, _, k2, _⟩ := e4
  exact fun b q => hs b (k2 b q)
theorem IsFile.mono (h : IsFile ts w F v xs ss) (hs : ∀ b, F b → F' b) : IsFile ts w F' v xs ss := by
  obtain ⟨h1, h2, h3⟩ := h
  refine ⟨h1, fun b e => hs b (h2 b e), fun i s e => ?_⟩
  obtain ⟨lv, wv, e1, e2, e3, e4⟩ := h3 i s e
  exact ⟨lv, wv, e1, e2, e3.mono fun b q _ => hs b q, e4.mono hs⟩
end
/-- the rows of both files, what waits -/
structure FilesAt (ts : TypeId) (f : Nat → List Sect) (w : World) (F : Nat → Prop) (s : Nat → Value) (X : Nat → List Value) : Prop where
  file : ∀ n, n < 2 → IsFile ts w F (s n) (X n) (f n)
  rows : (s 0).ownBlock = none ∨ (s 0).ownBlock ≠ (s 1).ownBlock
  apart : Apart X
/-- a block of cells of this type -/
def Ty (w : World) (b : Nat) (t : TypeId) : Prop := ∃ cs f, w.heap[b]? = some (.cells cs t f)
theorem Ty.uniq {w : World} {b : Nat} {t t' : TypeId} (h : Ty w b t) (h' : Ty w b t') : t = t' := by
  obtain ⟨cs, f, h⟩ := h
  obtain ⟨cs', f', h'⟩ := h'
  rw [h] at h'
  injection h' with h'
  injection h'
theorem Ty.only {w w' : World} {S : Nat → Prop} {b : Nat} {t : TypeId} (h : Ty w b t) (hb : b < w.heap.size) (ho : Only S w w') (hs : ¬ S b) : Ty w' b t := by
  obtain ⟨cs, f, h⟩ := h
  exact ⟨cs, f, (ho.block b hb hs).trans h⟩
theorem own_ty {w : World} {base : Nat} {e : TypeId} {size : Nat} {v : Value} {n : Nat} {xs : List Value} (h : w.ownsRow base e size v n xs) {b : Nat} (hb : v.ownBlock = some b) : Ty w b e := by
  rcases h.2 with ⟨rfl, _⟩ | ⟨g, cap, cur, rfl, _, hgb, _⟩
  · cases hb
  · obtain rfl : g = b := by simpa [Value.ownBlock] using hb
    exact ⟨cur, _, hgb⟩
theorem Blk.ty {w : World} {g : Nat} {t : TypeId} {cs : Array Value} (h : Blk w g t cs) : Ty w g t := ⟨cs, _, h⟩
/-- these blocks' types are none of a device's rows -/
def Far (w : World) (ts : TypeId) (S : Nat → Prop) : Prop := ∀ b, S b → b < w.heap.size → ∃ t, Ty w b t ∧ t ≠ ts ∧ t ≠ 28 ∧ t ≠ 5
section
variable {w w' : World} {F F' S : Nat → Prop} {s : Nat → Value} {X : Nat → List Value} {ts : TypeId} {f : Nat → List Sect}
theorem Far.not_u8 (h : Far w ts S) {b : Nat} (hb : U8 w b) : ¬ S b := fun q => by
  obtain ⟨t, h1, _, _, h4⟩ := h b q hb.lt
  exact h4 (h1.uniq hb)
theorem Far.not_own (h : Far w ts S) {base : Nat} {e : TypeId} {size : Nat} {v : Value} {n : Nat} {xs : List Value} (ho : w.ownsRow base e size v n xs) (he : e = ts ∨ e = 28) : ∀ b, v.ownBlock = some b → ¬ S b := fun b hb q => by
  obtain ⟨t, h1, h2, h3, _⟩ := h b q (ho.lt b hb).2
  have := h1.uniq (own_ty ho hb)
  rcases he with rfl | rfl
  · exact h2 this
  · exact h3 this
theorem FilesAt.only (h : FilesAt ts f w F s X) (ho : Only S w w') (hs : ∀ b, F b → ¬ S b) : FilesAt ts f w' F s X := ⟨fun n hn => (h.file n hn).only ho hs, h.rows, h.apart⟩
theorem FilesAt.mono (h : FilesAt ts f w F s X) (hs : ∀ b, F b → F' b) : FilesAt ts f w F' s X := ⟨fun n hn => (h.file n hn).mono hs, h.rows, h.apart⟩
theorem FilesAt.far (h : FilesAt ts f w F s X) (ho : Only S w w') (hS : Far w ts S) : FilesAt ts f w' F s X := by
  refine ⟨fun n hn => ?_, h.rows, h.apart⟩
  obtain ⟨h1, h2, h3⟩ := h.file n hn
  refine ⟨ho.own h1 (hS.not_own h1 (.inl rfl)), h2, fun i sc e => ?_⟩
  obtain ⟨lv, wv, e1, e2, e3, e4⟩ := h3 i sc e
  refine ⟨lv, wv, e1, e2, e3.only ho fun b _ hu => hS.not_u8 hu, e4.only ho (fun b _ hu => hS.not_u8 hu) ?_⟩
  obtain ⟨L, k1, k2, _⟩ := e4
  exact hS.not_own k1 (.inr rfl)
/-- all but one sector -/
structure FilesBut (ts : TypeId) (f : Nat → List Sect) (w : World) (F : Nat → Prop) (s : Nat → Value) (X : Nat → List Value) (n k : Nat) : Prop where
  row : ∀ m, m < 2 → w.ownsRow 0 ts 2 (s m) (f m).length (X m) ∧ ∀ b, (s m).ownBlock = some b → F b
  sect : ∀ m, m < 2 → ∀ (i : Nat) (sc : Sect), ¬ (m = n ∧ i = k) → (f m)[i]? = some sc → ∃ lv wv, (X m)[2 * i]? = some lv ∧ (X m)[2 * i + 1]? = some wv ∧ Txt w F lv sc.last ∧ IsWaits w F wv sc.waits
  rows : (s 0).ownBlock = none ∨ (s 0).ownBlock ≠ (s 1).ownBlock
  apart : Apart X
theorem FilesAt.but (h : FilesAt ts f w F s X) (n k : Nat) : FilesBut ts f w F s X n k :=
  ⟨fun m hm => ⟨(h.file m hm).1, (h.file m hm).2.1⟩, fun m hm i sc _ e => (h.file m hm).2.2 i sc e, h.rows, h.apart⟩
theorem FilesBut.mono {n k : Nat} (h : FilesBut ts f w F s X n k) (hs : ∀ b, F b → F' b) : FilesBut ts f w F' s X n k :=
  ⟨fun m hm => ⟨(h.row m hm).1, fun b e => hs b ((h.row m hm).2 b e)⟩, fun m hm i sc hne e => by
    obtain ⟨lv, wv, e1, e2, e3, e4⟩ := h.sect m hm i sc hne e
    exact ⟨lv, wv, e1, e2, e3.mono fun b q _ => hs b q, e4.mono hs⟩, h.rows, h.apart⟩
/-- .. and that sector's list of what waits was written -/
theorem FilesBut.wrote {n k : Nat} (h : FilesBut ts f w F s X n k) (hn : n < 2) (hts : ts ≠ 28) {wv : Value} (hwv : (X n)[2 * k + 1]? = some wv) {base : Nat} {L : List Value} {c : Nat} (how : w.ownsRow base 28 1 wv c L) (hg : w.grownBy w' wv.ownBlock) : FilesBut ts f w' F s X n k := by
  have ho : Only (fun b => wv.ownBlock = some b) w w' := Only.of_grown hg fun b e => .inl e
  have hu : ∀ b, F b → U8 w b → ¬ wv.ownBlock = some b := fun b _ hb e => absurd ((own_ty how e).uniq hb) (by decide)
  refine ⟨fun m hm => ⟨ho.own (h.row m hm).1 fun b e q => hts ((own_ty (h.row m hm).1 e).uniq (own_ty how q)), (h.row m hm).2⟩, fun m hm i sc hne e => ?_, h.rows, h.apart⟩
  obtain ⟨lv, wv', e1, e2, e3, e4⟩ := h.sect m hm i sc hne e
  refine ⟨lv, wv', e1, e2, e3.only ho hu, e4.only ho hu fun b q q' => ?_⟩
  rcases h.apart m i n k wv' wv hm hn hne e2 hwv with z | z
  · rw [z] at q; cases q
  · exact z (q.trans q'.symm)
/-- a sector is put -/
def putF (f : Nat → List Sect) (n k : Nat) (sc : Sect) (m : Nat) : List Sect := if m = n then (f m).set k sc else f m
def updX (X : Nat → List Value) (n : Nat) (xs : List Value) (m : Nat) : List Value := if m = n then xs else X m
theorem FilesBut.put {n k : Nat} (h : FilesBut ts f w F s X n k) (hn : n < 2) (hts : ts ≠ 28) (hts2 : ts ≠ 5) {xs : List Value} {lv wv : Value} {sc : Sect}
    (ho : w'.ownsRow 0 ts 2 (s n) (f n).length xs) (h1 : xs[2 * k]? = some lv) (h2 : xs[2 * k + 1]? = some wv) (hx : ∀ j, j ≠ 2 * k → j ≠ 2 * k + 1 → xs[j]? = (X n)[j]?)
    (hS : Only (fun b => (s n).ownBlock = some b) w w') (ht : Txt w F lv sc.last) (hw : IsWaits w F wv sc.waits)
    (ha : ∀ m i u, m < 2 → ¬ (m = n ∧ i = k) → (X m)[2 * i + 1]? = some u → u.ownBlock = none ∨ wv.ownBlock = none ∨ u.ownBlock ≠ wv.ownBlock) :
    FilesAt ts (putF f n k sc) w' F s (updX X n xs) := by
  have hr := h.row n hn
  have hu : ∀ b, F b → U8 w b → ¬ (s n).ownBlock = some b := fun b _ hb e => hts2 ((own_ty hr.1 e).uniq hb)
  have hwk : ∀ (v : Value) (ws : List (List Nat)), IsWaits w F v ws → IsWaits w' F v ws := fun v ws q => q.only hS hu (by
    obtain ⟨L, q1, _⟩ := q
    exact fun b e e' => hts ((own_ty hr.1 e').uniq (own_ty q1 e)))
  refine ⟨fun m hm => ?_, h.rows, ?_⟩
  · by_cases e : m = n
    · subst e
      unfold putF updX
      rw [if_pos rfl, if_pos rfl]
      refine ⟨by rw [List.length_set]; exact ho, hr.2, fun i sc' hi => ?_⟩
      rw [List.getElem?_set] at hi
      by_cases ei : k = i
      · subst ei
        rw [if_pos rfl] at hi
        split at hi
        · injection hi with hi
          subst hi
          exact ⟨lv, wv, h1, h2, ht.only hS hu, hwk _ _ hw⟩
        · cases hi
      · rw [if_neg ei] at hi
        obtain ⟨lv', wv', e1, e2, e3, e4⟩ := h.sect m hm i sc' (fun q => ei q.2.symm) hi
        exact ⟨lv', wv', by rw [hx _ (by omega) (by omega)]; exact e1, by rw [hx _ (by omega) (by omega)]; exact e2, e3.only hS hu, hwk _ _ e4⟩
    · unfold putF updX
      rw [if_neg e, if_neg e]
      refine ⟨hS.own (h.row m hm).1 fun b q q' => ?_, (h.row m hm).2, fun i sc' hi => ?_⟩
      · have hd : (s m).ownBlock ≠ (s n).ownBlock := by
          have h0 := h.rows
          rcases (show (m = 0 ∧ n = 1) ∨ (m = 1 ∧ n = 0) from by omega) with ⟨rfl, rfl⟩ | ⟨rfl, rfl⟩
          · rcases h0 with z | z
            · rw [z] at q; cases q
            · exact z
          · rcases h0 with z | z
            · rw [z] at q'; cases q'
            · exact fun y => z y.symm
        exact hd (q.trans q'.symm)
      · obtain ⟨lv', wv', e1, e2, e3, e4⟩ := h.sect m hm i sc' (fun q => e q.1) hi
        exact ⟨lv', wv', e1, e2, e3.only hS hu, hwk _ _ e4⟩
  · intro m i m' j u v hm hm' hne hu1 hv1
    have key : ∀ m i u, (updX X n xs m)[2 * i + 1]? = some u → (m = n ∧ i = k ∧ u = wv) ∨ (¬ (m = n ∧ i = k) ∧ (X m)[2 * i + 1]? = some u) := fun m i u hq => by
      unfold updX at hq
      by_cases e : m = n
      · subst e
        rw [if_pos rfl] at hq
        by_cases ei : i = k
        · subst ei
          rw [h2] at hq
          injection hq with hq
          exact .inl ⟨rfl, rfl, hq.symm⟩
        · rw [hx _ (by omega) (by omega)] at hq
          exact .inr ⟨fun q => ei q.2, hq⟩
      · rw [if_neg e] at hq
        exact .inr ⟨fun q => e q.1, hq⟩
    rcases key m i u hu1 with ⟨rfl, rfl, rfl⟩ | ⟨n1, q1⟩
    · rcases key m' j v hv1 with ⟨rfl, rfl, rfl⟩ | ⟨n2, q2⟩
      · exact absurd ⟨rfl, rfl⟩ hne
      · rcases ha m' j v hm' n2 q2 with z | z | z
        · cases hz : u.ownBlock with
          | none => exact .inl rfl
          | some b => exact .inr (by rw [z]; simp)
        · exact .inl z
        · exact .inr fun y => z y.symm
    · rcases key m' j v hv1 with ⟨rfl, rfl, rfl⟩ | ⟨n2, q2⟩
      · rcases ha m i u hm n1 q1 with z | z | z
        · exact .inl z
        · cases hz : u.ownBlock with
          | none => exact .inl rfl
          | some b => exact .inr (by rw [z]; simp)
        · exact .inr z
      · exact h.apart m i m' j u v hm hm' hne q1 q2
end
/-- the plain device -/
structure DevP where
  f : Nat → List Sect
  left : Option Nat
  halted : Bool
def IsLeft (w : World) (F : Nat → Prop) (v : Value) : Option Nat → Prop
  | none => v = .pointer none
  | some n => ∃ gl, v = .pointer (some ⟨gl, 0, none⟩) ∧ F gl ∧ Blk w gl 3 #[.int .i64 n] ∧ n < 9223372036854775808
theorem IsLeft.only {w w' : World} {F S : Nat → Prop} {v : Value} {n : Option Nat} (h : IsLeft w F v n) (ho : Only S w w') (hs : ∀ b, F b → ¬ S b) : IsLeft w' F v n := by
  cases n with
  | none => exact h
  | some n =>
    obtain ⟨gl, e, hF, hb, hn⟩ := h
    exact ⟨gl, e, hF, hb.only ho (hs gl hF), hn⟩
theorem IsLeft.mono {w : World} {F F' : Nat → Prop} {v : Value} {n : Option Nat} (h : IsLeft w F v n) (hs : ∀ b, F b → F' b) : IsLeft w F' v n := by
  cases n with
  | none => exact h
  | some n =>
    obtain ⟨gl, e, hF, hb, hn⟩ := h
    exact ⟨gl, e, hs gl hF, hb, hn⟩
/-- the device as it lies: its block gp, the two rows, its pointer to what is left -/
structure DevAt (D : DevP) (w : World) (F : Nat → Prop) (gp : Nat) (s : Nat → Value) (lv : Value) (X : Nat → List Value) : Prop extends FilesAt 70 D.f w F s X where
  blk : Blk w gp 67 #[s 0, s 1, lv, .bool D.halted]
  inF : F gp
  left : IsLeft w F lv D.left
def IsDev (D : DevP) (w : World) (F : Nat → Prop) (p : Value) : Prop := ∃ gp s lv X, p = .pointer (some ⟨gp, 0, none⟩) ∧ DevAt D w F gp s lv X
section
variable {D : DevP} {w w' : World} {F F' S : Nat → Prop} {p : Value}
theorem IsDev.only (h : IsDev D w F p) (ho : Only S w w') (hs : ∀ b, F b → ¬ S b) : IsDev D w' F p := by
  obtain ⟨gp, s, lv, X, e, h⟩ := h
  exact ⟨gp, s, lv, X, e, h.toFilesAt.only ho hs, h.blk.only ho (hs gp h.inF), h.inF, h.left.only ho hs⟩
theorem IsDev.mono (h : IsDev D w F p) (hs : ∀ b, F b → F' b) : IsDev D w F' p := by
  obtain ⟨gp, s, lv, X, e, h⟩ := h
  exact ⟨gp, s, lv, X, e, h.toFilesAt.mono hs, h.blk, hs gp h.inF, h.left.mono hs⟩
/-- what is new since w is added -/
def grow (F : Nat → Prop) (w w' : World) (b : Nat) : Prop := F b ∨ (w.heap.size ≤ b ∧ b < w'.heap.size)
theorem IsDev.below (h : IsDev D w F p) (hb : Below w.heap.size w w') : IsDev D w' F p := h.only (Only.of_below hb (fun _ => False)) fun _ _ q => q
end
end Go.Proofs.Ytnbbneldbagohaa
