/- The law's own sector with a front. Conditions: as stated. -/
import Derived.Test.YtkganajbilnanaaGreatYBase
import Derived.Maps.AppendAt
import Derived.Laws.CopyOwn
set_option linter.unusedVariables false
set_option linter.unusedSimpArgs false
namespace Go.Proofs.YtkganajbilnanaaGreat
open Go.ChangeShapes Go.WideShapes Go.ChangeAt Go.RowKit
def U8 (w : World) (b : Nat) : Prop := ∃ cs f, w.heap[b]? = some (.cells cs 5 f)
def Txt (w : World) (F : Nat → Prop) (v : Value) (l : List Nat) : Prop := ∃ A c, v = .slice A l.length c ∧ l.length ≤ c ∧ BytesIn w (fun b => F b ∧ U8 w b) A l
section
variable {w w' : World} {F F' S : Nat → Prop} {v : Value} {l : List Nat}
theorem U8.only {b : Nat} (h : U8 w b) (hb : b < w.heap.size) (ho : Only S w w') (hs : ¬ S b) : U8 w' b := by
  obtain ⟨cs, f, h⟩ := h
  exact ⟨cs, f, (ho.block b hb hs).trans h⟩
theorem U8.uniq' {b : Nat} {t : TypeId} (h : U8 w b) (h' : ∃ cs f, w.heap[b]? = some (.cells cs t f)) : 5 = t := by
  obtain ⟨cs, f, h⟩ := h
  obtain ⟨cs', f', h'⟩ := h'
  rw [h] at h'
  injection h' with h'
  injection h'
theorem U8.lt {b : Nat} (h : U8 w b) : b < w.heap.size := by
  obtain ⟨cs, f, h⟩ := h
  exact (Array.getElem?_eq_some_iff.1 h).1
theorem Txt.bytes (h : Txt w F v l) : ∃ A c, v = .slice A l.length c ∧ l.length ≤ c ∧ Bytes w w.heap.size A l := by
  obtain ⟨A, c, e, hc, hb⟩ := h
  exact ⟨A, c, e, hc, hb.bytes⟩
theorem Txt.only (h : Txt w F v l) (ho : Only S w w') (hs : ∀ b, F b → U8 w b → ¬ S b) : Txt w' F v l := by
  obtain ⟨A, c, e, hc, hb⟩ := h
  refine ⟨A, c, e, hc, ?_, hb.2⟩
  intro j hj
  obtain ⟨b, o, e, ⟨h1, h2⟩, h3, h4⟩ := hb.1 j hj
  exact ⟨b, o, e, ⟨h1, h2.only h3 ho (hs b h1 h2)⟩, Nat.lt_of_lt_of_le h3 ho.size, (ho.cell (p := ⟨b, o + j, none⟩) h3 (hs b h1 h2)).trans h4⟩
theorem Txt.mono (h : Txt w F v l) (hs : ∀ b, F b → U8 w b → F' b) : Txt w F' v l := by
  obtain ⟨A, c, e, hc, hb⟩ := h
  exact ⟨A, c, e, hc, hb.mono fun b q => ⟨hs b q.1 q.2, q.2⟩⟩
theorem Txt.own {base n c : Nat} {A : Option Addr} (h : w.ownsRow base 5 1 (.slice A n c) n (l.map byteV)) (hn : l.length = n) (hl : Small l) (hF : ∀ b, (Value.slice A n c).ownBlock = some b → F b) : Txt w F (.slice A n c) l := by
  subst hn
  refine ⟨A, c, rfl, own_cap h, ?_, hl⟩
  intro j hj
  have hj' : j < l.length := by simpa using hj
  obtain ⟨g, rfl, hg, hg'⟩ := own_pos h (by omega)
  refine ⟨g, 0, rfl, ⟨hF g rfl, ?_⟩, hg', ?_⟩
  · rcases h.2 with ⟨e, _⟩ | ⟨g', cap', cur', e, _, hgb, _⟩
    · cases e
    · injection e with e _ _
      injection e with e
      injection e with e _
      subst e
      exact ⟨cur', _, hgb⟩
  · rw [Nat.zero_add, h.cellAt j (by omega), List.getElem?_eq_getElem hj]
end
structure Sect where
  last : List Nat
  waits : List (List Nat)
def IsWaits (w : World) (F : Nat → Prop) (v : Value) (ws : List (List Nat)) : Prop :=
  ∃ L, w.ownsRow 0 45 1 v ws.length L ∧ (∀ b, v.ownBlock = some b → F b) ∧ ∀ (j : Nat) (u : Value) (l : List Nat), L[j]? = some u → ws[j]? = some l → Txt w F u l
section
variable {w w' : World} {F F' S : Nat → Prop} {v : Value} {ws : List (List Nat)}
theorem IsWaits.only (h : IsWaits w F v ws) (ho : Only S w w') (hs : ∀ b, F b → U8 w b → ¬ S b) (hv : ∀ b, v.ownBlock = some b → ¬ S b) : IsWaits w' F v ws := by
  obtain ⟨L, h1, h2, h3⟩ := h
  exact ⟨L, ho.own h1 hv, h2, fun j u l hu hl => (h3 j u l hu hl).only ho hs⟩
theorem IsWaits.mono (h : IsWaits w F v ws) (hs : ∀ b, F b → F' b) : IsWaits w F' v ws := by
  obtain ⟨L, h1, h2, h3⟩ := h
  exact ⟨L, h1, fun b e => hs b (h2 b e), fun j u l hu hl => (h3 j u l hu hl).mono fun b q _ => hs b q⟩
theorem IsWaits.nil (w : World) (F : Nat → Prop) : IsWaits w F (.slice none 0 0) [] :=
  ⟨[], World.ownsRow_nil _ _ _ _, (fun b e => by cases e), fun j u l hu => by cases hu⟩
end
def IsFile (ts : TypeId) (w : World) (F : Nat → Prop) (v : Value) (xs : List Value) (ss : List Sect) : Prop :=
  w.ownsRow 0 ts 2 v ss.length xs ∧ (∀ b, v.ownBlock = some b → F b) ∧ ∀ (i : Nat) (s : Sect), ss[i]? = some s → ∃ lv wv, xs[2 * i]? = some lv ∧ xs[2 * i + 1]? = some wv ∧ Txt w F lv s.last ∧ IsWaits w F wv s.waits
def Apart (X : Nat → List Value) : Prop := ∀ f i g j u v, f < 2 → g < 2 → ¬ (f = g ∧ i = j) → (X f)[2 * i + 1]? = some u → (X g)[2 * j + 1]? = some v → u.ownBlock = none ∨ u.ownBlock ≠ v.ownBlock
section
variable {w w' : World} {F F' S : Nat → Prop} {v : Value} {xs : List Value} {ss : List Sect} {ts : TypeId}
theorem IsFile.only (h : IsFile ts w F v xs ss) (ho : Only S w w') (hs : ∀ b, F b → ¬ S b) : IsFile ts w' F v xs ss := by
  obtain ⟨h1, h2, h3⟩ := h
  refine ⟨ho.own h1 (fun k e => hs k (h2 k e)), h2, fun i s e => ?_⟩
  obtain ⟨lv, wv, e1, e2, e3, e4⟩ := h3 i s e
  refine ⟨lv, wv, e1, e2, e3.only ho fun b q _ => hs b q, e4.only ho (fun b q _ => hs b q) ?_⟩
  obtain ⟨L, _, k2, _⟩ := e4
  exact fun b q => hs b (k2 b q)
theorem IsFile.mono (h : IsFile ts w F v xs ss) (hs : ∀ b, F b → F' b) : IsFile ts w F' v xs ss := by
  obtain ⟨h1, h2, h3⟩ := h
  refine ⟨h1, fun b e => hs b (h2 b e), fun i s e => ?_⟩
  obtain ⟨lv, wv, e1, e2, e3, e4⟩ := h3 i s e
  exact ⟨lv, wv, e1, e2, e3.mono fun b q _ => hs b q, e4.mono hs⟩
end
structure FilesAt (ts : TypeId) (f : Nat → List Sect) (w : World) (F : Nat → Prop) (s : Nat → Value) (X : Nat → List Value) : Prop where
  file : ∀ n, n < 2 → IsFile ts w F (s n) (X n) (f n)
  rows : (s 0).ownBlock = none ∨ (s 0).ownBlock ≠ (s 1).ownBlock
  apart : Apart X
def Ty (w : World) (b : Nat) (t : TypeId) : Prop := ∃ cs f, w.heap[b]? = some (.cells cs t f)
theorem Ty.uniq {w : World} {b : Nat} {t t' : TypeId} (h : Ty w b t) (h' : Ty w b t') : t = t' := by
  obtain ⟨cs, f, h⟩ := h
  obtain ⟨cs', f', h'⟩ := h'
  rw [h] at h'
  injection h' with h'
  injection h'
theorem own_ty {w : World} {base : Nat} {e : TypeId} {size : Nat} {v : Value} {n : Nat} {xs : List Value} (h : w.ownsRow base e size v n xs) {b : Nat} (hb : v.ownBlock = some b) : Ty w b e := by
  rcases h.2 with ⟨rfl, _⟩ | ⟨g, cap, cur, rfl, _, hgb, _⟩
  · cases hb
  · obtain rfl : g = b := by simpa [Value.ownBlock] using hb
    exact ⟨cur, _, hgb⟩
theorem Blk.ty {w : World} {g : Nat} {t : TypeId} {cs : Array Value} (h : Blk w g t cs) : Ty w g t := ⟨cs, _, h⟩
def Far (w : World) (ts : TypeId) (S : Nat → Prop) : Prop := ∀ b, S b → b < w.heap.size → ∃ t, Ty w b t ∧ t ≠ ts ∧ t ≠ 45 ∧ t ≠ 5
section
variable {w w' : World} {F F' S : Nat → Prop} {s : Nat → Value} {X : Nat → List Value} {ts : TypeId} {f : Nat → List Sect}
theorem Far.not_u8 (h : Far w ts S) {b : Nat} (hb : U8 w b) : ¬ S b := fun q => by
  obtain ⟨t, h1, _, _, h4⟩ := h b q hb.lt
  exact h4 (h1.uniq hb)
theorem Far.not_own (h : Far w ts S) {base : Nat} {e : TypeId} {size : Nat} {v : Value} {n : Nat} {xs : List Value} (ho : w.ownsRow base e size v n xs) (he : e = ts ∨ e = 45) : ∀ b, v.ownBlock = some b → ¬ S b := fun b hb q => by
  obtain ⟨t, h1, h2, h3, _⟩ := h b q (ho.lt b hb).2
  have := h1.uniq (own_ty ho hb)
  rcases he with rfl | rfl
  · exact h2 this
  · exact h3 this
theorem FilesAt.only (h : FilesAt ts f w F s X) (ho : Only S w w') (hs : ∀ b, F b → ¬ S b) : FilesAt ts f w' F s X := ⟨fun n hn => (h.file n hn).only ho hs, h.rows, h.apart⟩
theorem FilesAt.mono (h : FilesAt ts f w F s X) (hs : ∀ b, F b → F' b) : FilesAt ts f w F' s X := ⟨fun n hn => (h.file n hn).mono hs, h.rows, h.apart⟩
theorem FilesAt.far (h : FilesAt ts f w F s X) (ho : Only S w w') (hS : Far w ts S) : FilesAt ts f w' F s X := by
  refine ⟨fun n hn => ?_, h.rows, h.apart⟩
  obtain ⟨h1, h2, h3⟩ := h.file n hn
  refine ⟨ho.own h1 (hS.not_own h1 (.inl rfl)), h2, fun i sc e => ?_⟩
  obtain ⟨lv, wv, e1, e2, e3, e4⟩ := h3 i sc e
  refine ⟨lv, wv, e1, e2, e3.only ho fun b _ hu => hS.not_u8 hu, e4.only ho (fun b _ hu => hS.not_u8 hu) ?_⟩
  obtain ⟨L, k1, k2, _⟩ := e4
  exact hS.not_own k1 (.inr rfl)
structure FilesBut (ts : TypeId) (f : Nat → List Sect) (w : World) (F : Nat → Prop) (s : Nat → Value) (X : Nat → List Value) (n k : Nat) : Prop where
  row : ∀ m, m < 2 → w.ownsRow 0 ts 2 (s m) (f m).length (X m) ∧ ∀ b, (s m).ownBlock = some b → F b
  sect : ∀ m, m < 2 → ∀ (i : Nat) (sc : Sect), ¬ (m = n ∧ i = k) → (f m)[i]? = some sc → ∃ lv wv, (X m)[2 * i]? = some lv ∧ (X m)[2 * i + 1]? = some wv ∧ Txt w F lv sc.last ∧ IsWaits w F wv sc.waits
  rows : (s 0).ownBlock = none ∨ (s 0).ownBlock ≠ (s 1).ownBlock
  apart : Apart X
theorem FilesAt.but (h : FilesAt ts f w F s X) (n k : Nat) : FilesBut ts f w F s X n k :=
  ⟨fun m hm => ⟨(h.file m hm).1, (h.file m hm).2.1⟩, fun m hm i sc _ e => (h.file m hm).2.2 i sc e, h.rows, h.apart⟩
theorem FilesBut.mono {n k : Nat} (h : FilesBut ts f w F s X n k) (hs : ∀ b, F b → F' b) : FilesBut ts f w F' s X n k :=
  ⟨fun m hm => ⟨(h.row m hm).1, fun b e => hs b ((h.row m hm).2 b e)⟩, fun m hm i sc hne e => by
    obtain ⟨lv, wv, e1, e2, e3, e4⟩ := h.sect m hm i sc hne e
    exact ⟨lv, wv, e1, e2, e3.mono fun b q _ => hs b q, e4.mono hs⟩, h.rows, h.apart⟩
theorem FilesBut.wrote {n k : Nat} (h : FilesBut ts f w F s X n k) (hn : n < 2) (hts : ts ≠ 45) {wv : Value} (hwv : (X n)[2 * k + 1]? = some wv) {base : Nat} {L : List Value} {c : Nat} (how : w.ownsRow base 45 1 wv c L) (hg : w.grownBy w' wv.ownBlock) : FilesBut ts f w' F s X n k := by
  have ho : Only (fun b => wv.ownBlock = some b) w w' := Only.of_grown hg fun b e => .inl e
  have hu : ∀ b, F b → U8 w b → ¬ wv.ownBlock = some b := fun b _ hb e => absurd ((own_ty how e).uniq hb) (by decide)
  refine ⟨fun m hm => ⟨ho.own (h.row m hm).1 fun b e q => hts ((own_ty (h.row m hm).1 e).uniq (own_ty how q)), (h.row m hm).2⟩, fun m hm i sc hne e => ?_, h.rows, h.apart⟩
  obtain ⟨lv, wv', e1, e2, e3, e4⟩ := h.sect m hm i sc hne e
  refine ⟨lv, wv', e1, e2, e3.only ho hu, e4.only ho hu fun b q q' => ?_⟩
  rcases h.apart m i n k wv' wv hm hn hne e2 hwv with z | z
  · rw [z] at q; cases q
  · exact z (q.trans q'.symm)
def putD (f : Nat → List Sect) (n k : Nat) (sc : Sect) (m : Nat) : List Sect := if m = n then (f m).set k sc else f m
def updX (X : Nat → List Value) (n : Nat) (xs : List Value) (m : Nat) : List Value := if m = n then xs else X m
theorem FilesBut.put {n k : Nat} (h : FilesBut ts f w F s X n k) (hn : n < 2) (hts : ts ≠ 45) (hts2 : ts ≠ 5) {xs : List Value} {lv wv : Value} {sc : Sect}
    (ho : w'.ownsRow 0 ts 2 (s n) (f n).length xs) (h1 : xs[2 * k]? = some lv) (h2 : xs[2 * k + 1]? = some wv) (hx : ∀ j, j ≠ 2 * k → j ≠ 2 * k + 1 → xs[j]? = (X n)[j]?)
    (hS : Only (fun b => (s n).ownBlock = some b) w w') (ht : Txt w F lv sc.last) (hw : IsWaits w F wv sc.waits)
    (ha : ∀ m i u, m < 2 → ¬ (m = n ∧ i = k) → (X m)[2 * i + 1]? = some u → u.ownBlock = none ∨ wv.ownBlock = none ∨ u.ownBlock ≠ wv.ownBlock) :
    FilesAt ts (putD f n k sc) w' F s (updX X n xs) := by
  have hr := h.row n hn
  have hu : ∀ b, F b → U8 w b → ¬ (s n).ownBlock = some b := fun b _ hb e => hts2 ((own_ty hr.1 e).uniq hb)
  have hwk : ∀ (v : Value) (ws : List (List Nat)), IsWaits w F v ws → IsWaits w' F v ws := fun v ws q => q.only hS hu (by
    obtain ⟨L, q1, _⟩ := q
    exact fun b e e' => hts ((own_ty hr.1 e').uniq (own_ty q1 e)))
  refine ⟨fun m hm => ?_, h.rows, ?_⟩
  · by_cases e : m = n
    · subst e
      unfold putD updX
      rw [if_pos rfl, if_pos rfl]
      refine ⟨by rw [List.length_set]; exact ho, hr.2, fun i sc' hi => ?_⟩
      rw [List.getElem?_set] at hi
      by_cases ei : k = i
      · subst ei
        rw [if_pos rfl] at hi
        split at hi
        · injection hi with hi
          subst hi
          exact ⟨lv, wv, h1, h2, ht.only hS hu, hwk _ _ hw⟩
        · cases hi
      · rw [if_neg ei] at hi
        obtain ⟨lv', wv', e1, e2, e3, e4⟩ := h.sect m hm i sc' (fun q => ei q.2.symm) hi
        exact ⟨lv', wv', by rw [hx _ (by omega) (by omega)]; exact e1, by rw [hx _ (by omega) (by omega)]; exact e2, e3.only hS hu, hwk _ _ e4⟩
    · unfold putD updX
      rw [if_neg e, if_neg e]
      refine ⟨hS.own (h.row m hm).1 fun b q q' => ?_, (h.row m hm).2, fun i sc' hi => ?_⟩
      · have hd : (s m).ownBlock ≠ (s n).ownBlock := by
          have h0 := h.rows
          rcases (show (m = 0 ∧ n = 1) ∨ (m = 1 ∧ n = 0) from by omega) with ⟨rfl, rfl⟩ | ⟨rfl, rfl⟩
          · rcases h0 with z | z
            · rw [z] at q; cases q
            · exact z
          · rcases h0 with z | z
            · rw [z] at q'; cases q'
            · exact fun y => z y.symm
        exact hd (q.trans q'.symm)
      · obtain ⟨lv', wv', e1, e2, e3, e4⟩ := h.sect m hm i sc' (fun q => e q.1) hi
        exact ⟨lv', wv', e1, e2, e3.only hS hu, hwk _ _ e4⟩
  · intro m i m' j u v hm hm' hne hu1 hv1
    have key : ∀ m i u, (updX X n xs m)[2 * i + 1]? = some u → (m = n ∧ i = k ∧ u = wv) ∨ (¬ (m = n ∧ i = k) ∧ (X m)[2 * i + 1]? = some u) := fun m i u hq => by
      unfold updX at hq
      by_cases e : m = n
      · subst e
        rw [if_pos rfl] at hq
        by_cases ei : i = k
        · subst ei
          rw [h2] at hq
          injection hq with hq
          exact .inl ⟨rfl, rfl, hq.symm⟩
        · rw [hx _ (by omega) (by omega)] at hq
          exact .inr ⟨fun q => ei q.2, hq⟩
      · rw [if_neg e] at hq
        exact .inr ⟨fun q => e q.1, hq⟩
    rcases key m i u hu1 with ⟨rfl, rfl, rfl⟩ | ⟨n1, q1⟩
    · rcases key m' j v hv1 with ⟨rfl, rfl, rfl⟩ | ⟨n2, q2⟩
      · exact absurd ⟨rfl, rfl⟩ hne
      · rcases ha m' j v hm' n2 q2 with z | z | z
        · cases hz : u.ownBlock with
          | none => exact .inl rfl
          | some b => exact .inr (by rw [z]; simp)
        · exact .inl z
        · exact .inr fun y => z y.symm
    · rcases key m' j v hv1 with ⟨rfl, rfl, rfl⟩ | ⟨n2, q2⟩
      · rcases ha m i u hm n1 q1 with z | z | z
        · exact .inl z
        · cases hz : u.ownBlock with
          | none => exact .inl rfl
          | some b => exact .inr (by rw [z]; simp)
        · exact .inr z
      · exact h.apart m i m' j u v hm hm' hne q1 q2
end
structure DevP where
  f : Nat → List Sect
  left : Option Nat
  halted : Bool
def IsLeft (w : World) (F : Nat → Prop) (v : Value) : Option Nat → Prop
  | none => v = .pointer none
  | some n => ∃ gl, v = .pointer (some ⟨gl, 0, none⟩) ∧ F gl ∧ Blk w gl 3 #[.int .i64 n] ∧ n < 9223372036854775808
theorem IsLeft.only {w w' : World} {F S : Nat → Prop} {v : Value} {n : Option Nat} (h : IsLeft w F v n) (ho : Only S w w') (hs : ∀ b, F b → ¬ S b) : IsLeft w' F v n := by
  cases n with
  | none => exact h
  | some n =>
    obtain ⟨gl, e, hF, hb, hn⟩ := h
    exact ⟨gl, e, hF, hb.only ho (hs gl hF), hn⟩
theorem IsLeft.mono {w : World} {F F' : Nat → Prop} {v : Value} {n : Option Nat} (h : IsLeft w F v n) (hs : ∀ b, F b → F' b) : IsLeft w F' v n := by
  cases n with
  | none => exact h
  | some n =>
    obtain ⟨gl, e, hF, hb, hn⟩ := h
    exact ⟨gl, e, hs gl hF, hb, hn⟩
structure DevAt (D : DevP) (w : World) (F : Nat → Prop) (gp : Nat) (s : Nat → Value) (lv : Value) (X : Nat → List Value) : Prop extends FilesAt 71 D.f w F s X where
  blk : Blk w gp 67 #[s 0, s 1, lv, .bool D.halted]
  inF : F gp
  left : IsLeft w F lv D.left
def IsDev (D : DevP) (w : World) (F : Nat → Prop) (p : Value) : Prop := ∃ gp s lv X, p = .pointer (some ⟨gp, 0, none⟩) ∧ DevAt D w F gp s lv X
section
variable {D : DevP} {w w' : World} {F F' S : Nat → Prop} {p : Value}
theorem IsDev.only (h : IsDev D w F p) (ho : Only S w w') (hs : ∀ b, F b → ¬ S b) : IsDev D w' F p := by
  obtain ⟨gp, s, lv, X, e, h⟩ := h
  exact ⟨gp, s, lv, X, e, h.toFilesAt.only ho hs, h.blk.only ho (hs gp h.inF), h.inF, h.left.only ho hs⟩
theorem IsDev.mono (h : IsDev D w F p) (hs : ∀ b, F b → F' b) : IsDev D w F' p := by
  obtain ⟨gp, s, lv, X, e, h⟩ := h
  exact ⟨gp, s, lv, X, e, h.toFilesAt.mono hs, h.blk, hs gp h.inF, h.left.mono hs⟩
def grow (F : Nat → Prop) (w w' : World) (b : Nat) : Prop := F b ∨ (w.heap.size ≤ b ∧ b < w'.heap.size)
theorem IsDev.below (h : IsDev D w F p) (hb : Below w.heap.size w w') : IsDev D w' F p := h.only (Only.of_below hb (fun _ => False)) fun _ _ q => q
end
section
variable {D : DevP} {w : World} {F : Nat → Prop} {gp : Nat} {s : Nat → Value} {lv : Value} {X : Nat → List Value}
theorem file_any (h : DevAt D w F gp s lv X) (n : Nat) (hn : n < 256) :
    Calls Tryz.prog 105 #[.pointer (some ⟨gp, 0, none⟩), .int .u8 n] w fun e w' => e = .returned (if n < 2 then s n else .slice none 0 0) ∧ w = w' := by
  have hb := h.blk.cell
  rcases (show n = 0 ∨ n = 1 ∨ 2 ≤ n from by omega) with rfl | rfl | h2
  · have c0 : w.cell? ⟨gp, 0, none⟩ = some (s 0) := hb 0
    clear h hb
    generalize s 0 = v at *
    go_enter Tryz.func105, Tryz.ntmps105
    go_wp2
    go_ret
    exact ⟨rfl, rfl⟩
  · have c1 : w.cell? ⟨gp, 1, none⟩ = some (s 1) := hb 1
    clear h hb
    generalize s 1 = v at *
    go_enter Tryz.func105, Tryz.ntmps105
    go_wp2
    go_ret
    exact ⟨rfl, rfl⟩
  · rw [if_neg (by omega)]
    have e1 : decide ((2 : Int) ≤ (n : Int)) = true := by rw [decide_eq_true_iff]; omega
    clear h hb
    go_enter Tryz.func105, Tryz.ntmps105
    go_wp2
    go_ret
    exact ⟨rfl, rfl⟩
theorem at_some (h : DevAt D w F gp s lv X) (n : Nat) (hn : n < 2) (k : Nat) (hk : k < (D.f n).length) (hL : (D.f n).length ≤ 4096) {g c : Nat} (hs : s n = .slice (some ⟨g, 0, none⟩) (D.f n).length c) :
    Calls Tryz.prog 74 #[.pointer (some ⟨gp, 0, none⟩), .int .u8 n, .int .i64 k] w fun e w' => e = .returned (.pointer (some ⟨g, 2 * k, none⟩)) ∧ w = w' := by
  have hf := file_any h n (by omega)
  rw [if_pos hn, hs] at hf
  generalize (D.f n).length = m at *
  have e1 : decide ((k : Int) < 0) = false := by rw [decide_eq_false_iff_not]; omega
  have e2 : decide ((m : Int) ≤ (k : Int)) = false := by rw [decide_eq_false_iff_not]; omega
  have e3 : (0 : Int) ≤ (k : Int) := by omega
  have e4 : (k : Int) < (m : Int) := by omega
  clear h
  go_enter Tryz.func74, Tryz.ntmps74
  go_wp2_with (go_at_call 105; refine hf.mono ?_; rintro e w1 ⟨rfl, rfl⟩)
  go_ret
  exact ⟨by first | rfl | (rw [Nat.mul_comm 2 k]; done) | (simp [Nat.mul_comm]; done) | (simp; omega), rfl⟩
theorem at_none (h : DevAt D w F gp s lv X) (n : Nat) (hn : n < 256) (i : Int) (hi : ¬ (n < 2 ∧ 0 ≤ i ∧ i < ((D.f n).length : Int))) :
    Calls Tryz.prog 74 #[.pointer (some ⟨gp, 0, none⟩), .int .u8 n, .int .i64 i] w fun e w' => e = .returned (.pointer none) ∧ w = w' := by
  have hf := file_any h n hn
  by_cases h0 : i < 0
  · have e1 : decide (i < 0) = true := by rw [decide_eq_true_iff]; omega
    generalize (if n < 2 then s n else Value.slice none 0 0) = v at *
    clear h
    go_enter Tryz.func74, Tryz.ntmps74
    go_wp2_with (go_at_call 105; refine hf.mono ?_; rintro e w1 ⟨rfl, rfl⟩)
    go_ret
    exact ⟨rfl, rfl⟩
  · have e1 : decide (i < 0) = false := by rw [decide_eq_false_iff_not]; omega
    have hv : ∃ A m c, (if n < 2 then s n else Value.slice none 0 0) = .slice A m c ∧ (m : Int) ≤ i := by
      by_cases hn2 : n < 2
      · rw [if_pos hn2]
        obtain ⟨A, c, e, -, -⟩ := own_form (h.file n hn2).1
        exact ⟨A, _, c, e, by omega⟩
      · rw [if_neg hn2]
        exact ⟨none, 0, 0, rfl, by omega⟩
    obtain ⟨A, m, c, ev, hm⟩ := hv
    rw [ev] at hf
    have e2 : decide ((m : Int) ≤ i) = true := by rw [decide_eq_true_iff]; omega
    clear h ev
    go_enter Tryz.func74, Tryz.ntmps74
    go_wp2_with (go_at_call 105; refine hf.mono ?_; rintro e w1 ⟨rfl, rfl⟩)
    go_ret
    exact ⟨rfl, rfl⟩
end
theorem newest_none (g o : Nat) (lv : Value) (Aw : Option Addr) (cw : Nat) (w : World) (c0 : w.cell? ⟨g, o, none⟩ = some lv) (c1 : w.cell? ⟨g, o + 1, none⟩ = some (.slice Aw 0 cw)) :
    Calls Tryz.prog 75 #[.pointer (some ⟨g, o, none⟩)] w fun e w' => e = .returned lv ∧ w = w' := by
  go_enter Tryz.func75, Tryz.ntmps75
  go_wp2
  go_ret
  exact ⟨rfl, rfl⟩
theorem newest_some (g o b2 o2 : Nat) (u : Value) (m cw : Nat) (w : World) (hm : m < 100000) (c1 : w.cell? ⟨g, o + 1, none⟩ = some (.slice (some ⟨b2, o2, none⟩) (m + 1) cw)) (c2 : w.cell? ⟨b2, o2 + m, none⟩ = some u) (hu : u.oneCell' = true) :
    Calls Tryz.prog 75 #[.pointer (some ⟨g, o, none⟩)] w fun e w' => e = .returned u ∧ w = w' := by
  have e1 : decide ((0 : Int) < ((m + 1 : Nat) : Int)) = true := by rw [decide_eq_true_iff]; omega
  have e2 : (((m + 1 : Nat) : Int)) - 1 = (m : Int) := by omega
  have e3 : (0 : Int) ≤ (m : Int) := by omega
  have e4 : (m : Int) < ((m + 1 : Nat) : Int) := by omega
  go_enter Tryz.func75, Tryz.ntmps75
  go_wp2
  go_ret
  exact ⟨rfl, rfl⟩
theorem goes_all (gp : Nat) (w : World) (c2 : w.cell? ⟨gp, 2, none⟩ = some (.pointer none)) :
    Calls Tryz.prog 119 #[.pointer (some ⟨gp, 0, none⟩)] w fun e w' => e = .returned (.bool true) ∧ w = w' := by
  go_enter Tryz.func119, Tryz.ntmps119
  go_wp2
  go_ret
  exact ⟨rfl, rfl⟩
theorem goes_zero (gp gl : Nat) (v : Value) (w : World) (c2 : w.cell? ⟨gp, 2, none⟩ = some (.pointer (some ⟨gl, 0, none⟩))) (c3 : w.cell? ⟨gp, 3, none⟩ = some v) (f3 : w.frozen? ⟨gp, 3, none⟩ = false) (cl : w.cell? ⟨gl, 0, none⟩ = some (.int .i64 0)) :
    Calls Tryz.prog 119 #[.pointer (some ⟨gp, 0, none⟩)] w fun e w' => e = .returned (.bool false) ∧ w' = w.setCell ⟨gp, 3, none⟩ (.bool true) := by
  go_enter Tryz.func119, Tryz.ntmps119
  go_wp2
  go_ret
  exact ⟨rfl, rfl⟩
theorem goes_more (gp gl n : Nat) (hn : n + 1 < 9223372036854775808) (w : World) (c2 : w.cell? ⟨gp, 2, none⟩ = some (.pointer (some ⟨gl, 0, none⟩))) (cl : w.cell? ⟨gl, 0, none⟩ = some (.int .i64 ((n + 1 : Nat) : Int))) (fl : w.frozen? ⟨gl, 0, none⟩ = false) :
    Calls Tryz.prog 119 #[.pointer (some ⟨gp, 0, none⟩)] w fun e w' => e = .returned (.bool true) ∧ w' = w.setCell ⟨gl, 0, none⟩ (.int .i64 (n : Int)) := by
  have e1 : (((n + 1 : Nat) : Int) == 0) = false := by rw [beq_eq_false_iff_ne]; omega
  obtain ⟨m, hm⟩ : ∃ m : Nat, n + 1 = m := ⟨_, rfl⟩
  rw [hm] at cl e1
  have e2 : (m : Int) - 1 = (n : Int) := by omega
  have e3 : IntKind.i64.wrap (n : Int) = (n : Int) := by rw [IntKind.wrap_i64]; omega
  clear hm
  go_enter Tryz.func119, Tryz.ntmps119
  go_wp2
  go_ret
  exact ⟨rfl, rfl⟩
theorem halted_any (gp : Nat) (h : Bool) (w : World) (c3 : w.cell? ⟨gp, 3, none⟩ = some (.bool h)) :
    Calls Tryz.prog 98 #[.pointer (some ⟨gp, 0, none⟩)] w fun e w' => e = .returned (.bool h) ∧ w = w' := by
  go_enter Tryz.func98, Tryz.ntmps98
  go_wp2
  go_ret
  exact ⟨rfl, rfl⟩
theorem halt_any (gp : Nat) (n : Int) (v : Value) (w : World) (c2 : w.cell? ⟨gp, 2, none⟩ = some v) (f2 : w.frozen? ⟨gp, 2, none⟩ = false) (hg : gp < w.heap.size) (hv : v.oneCell' = true) :
    Calls Tryz.prog 61 #[.pointer (some ⟨gp, 0, none⟩), .int .i64 n] w fun e w' => e = .returned (.tuple #[]) ∧ w' = (w.setCell ⟨gp, 2, none⟩ (.pointer (some ⟨w.heap.size, 0, none⟩))).alloc (.cells #[.int .i64 (max n 0)] 3) := by
  have hne : gp ≠ w.heap.size := by omega
  have hne2 : w.heap.size ≠ gp := by omega
  by_cases h0 : n < 0
  · have e0 : max n 0 = 0 := by omega
    rw [e0]
    have e1 : ¬ (0 ≤ n) := by omega
    clear e0
    go_enter Tryz.func61, Tryz.ntmps61
    go_wp2
    go_end0
    exact ⟨rfl, rfl⟩
  · have e0 : max n 0 = n := by omega
    rw [e0]
    have e1 : 0 ≤ n := by omega
    clear e0
    go_enter Tryz.func61, Tryz.ntmps61
    go_wp2
    go_end0
    exact ⟨rfl, rfl⟩
def DevP.size (D : DevP) (n : Nat) : Nat := if n < 2 then (D.f n).length else 0
section
variable {D : DevP} {w : World} {F : Nat → Prop} {gp : Nat} {s : Nat → Value} {lv : Value} {X : Nat → List Value}
theorem file_form (h : DevAt D w F gp s lv X) (n : Nat) : ∃ A c, (if n < 2 then s n else Value.slice none 0 0) = .slice A (D.size n) c := by
  unfold DevP.size
  by_cases hn2 : n < 2
  · rw [if_pos hn2, if_pos hn2]
    obtain ⟨A, c, e, -, -⟩ := own_form (h.file n hn2).1
    exact ⟨A, c, e⟩
  · rw [if_neg hn2, if_neg hn2]
    exact ⟨none, 0, rfl⟩
theorem size_any (h : DevAt D w F gp s lv X) (n : Nat) (hn : n < 256) :
    Calls Tryz.prog 65 #[.pointer (some ⟨gp, 0, none⟩), .int .u8 n] w fun e w' => e = .returned (.int .i64 (D.size n : Nat)) ∧ w = w' := by
  have hf := file_any h n hn
  obtain ⟨A, c, e⟩ := file_form h n
  rw [e] at hf
  generalize D.size n = m at *
  clear h e
  go_enter Tryz.func65, Tryz.ntmps65
  go_wp2_with (go_at_call 105; refine hf.mono ?_; rintro e w1 ⟨rfl, rfl⟩)
  go_ret
  exact ⟨rfl, rfl⟩
end
def DevP.has (D : DevP) (n : Nat) (i : Int) : Prop := n < 2 ∧ 0 ≤ i ∧ i < ((D.f n).length : Int)
section
variable {D : DevP} {w : World} {F : Nat → Prop} {gp : Nat} {s : Nat → Value} {lv : Value} {X : Nat → List Value}
theorem sector_at (h : DevAt D w F gp s lv X) {n : Nat} (hn : n < 2) {k : Nat} (hk : k < (D.f n).length) :
    ∃ g c lv wv, s n = .slice (some ⟨g, 0, none⟩) (D.f n).length c ∧ w.cell? ⟨g, 2 * k, none⟩ = some lv ∧ w.cell? ⟨g, 2 * k + 1, none⟩ = some wv ∧ Txt w F lv (D.f n)[k].last ∧ IsWaits w F wv (D.f n)[k].waits ∧ F g ∧ g < w.heap.size ∧ (X n)[2 * k]? = some lv ∧ (X n)[2 * k + 1]? = some wv := by
  obtain ⟨ho, hF, hs⟩ := h.file n hn
  obtain ⟨lv, wv, e1, e2, e3, e4⟩ := hs k _ (List.getElem?_eq_getElem hk)
  obtain ⟨A, c, e, -, -⟩ := own_form ho
  rw [e] at ho hF
  obtain ⟨g, rfl, hg, hg'⟩ := own_pos ho (by omega)
  exact ⟨g, c, lv, wv, e, (ho.cellAt _ (by omega)).trans e1, (ho.cellAt _ (by omega)).trans e2, e3, e4, hF g rfl, hg', e1, e2⟩
theorem waits_none (h : DevAt D w F gp s lv X) (n : Nat) (hn : n < 256) (i : Int) (hi : ¬ D.has n i) :
    Calls Tryz.prog 93 #[.pointer (some ⟨gp, 0, none⟩), .int .u8 n, .int .i64 i] w fun e w' => e = .returned (.int .i64 0) ∧ w = w' := by
  have ha := at_none h n hn i hi
  clear h
  go_enter Tryz.func93, Tryz.ntmps93
  go_wp2_with (go_at_call 74; refine ha.mono ?_; rintro e w1 ⟨rfl, rfl⟩)
  go_ret
  exact ⟨rfl, rfl⟩
theorem waits_some (h : DevAt D w F gp s lv X) (n : Nat) (hn : n < 2) (k : Nat) (hk : k < (D.f n).length) (hL : (D.f n).length ≤ 4096) :
    Calls Tryz.prog 93 #[.pointer (some ⟨gp, 0, none⟩), .int .u8 n, .int .i64 k] w fun e w' => e = .returned (.int .i64 ((D.f n)[k].waits.length : Nat)) ∧ w = w' := by
  obtain ⟨g, c, lv', wv, es, q0, q1, ht, hw, -⟩ := sector_at h hn hk
  have ha := at_some h n hn k hk hL es
  obtain ⟨L, ho, -, -⟩ := hw
  obtain ⟨A, c2, rfl, -, -⟩ := own_form ho
  generalize (D.f n)[k].waits.length = m at *
  clear h ho ht
  go_enter Tryz.func93, Tryz.ntmps93
  go_wp2_with (go_at_call 74; refine ha.mono ?_; rintro e w1 ⟨rfl, rfl⟩)
  go_ret
  exact ⟨rfl, rfl⟩
end
def Sect.newest (s : Sect) : List Nat := s.waits.getLast?.getD s.last
section
variable {D : DevP} {w : World} {F : Nat → Prop} {gp : Nat} {s : Nat → Value} {lv : Value} {X : Nat → List Value}
theorem newest_any (h : DevAt D w F gp s lv X) {n : Nat} (hn : n < 2) {k : Nat} (hk : k < (D.f n).length) (hL : (D.f n)[k].waits.length ≤ 100000) {g c : Nat} (es : s n = .slice (some ⟨g, 0, none⟩) (D.f n).length c) :
    Calls Tryz.prog 75 #[.pointer (some ⟨g, 2 * k, none⟩)] w fun e w' => (∃ u, e = .returned u ∧ Txt w F u (D.f n)[k].newest) ∧ w = w' := by
  obtain ⟨g', c', lv', wv, es', q0, q1, ht, hw, -⟩ := sector_at h hn hk
  rw [es] at es'
  injection es' with e1 _ _
  injection e1 with e1
  injection e1 with e1 _
  subst e1
  generalize (D.f n)[k] = sc at *
  obtain ⟨L, ho, hF, hT⟩ := hw
  unfold Sect.newest
  rcases Nat.eq_zero_or_pos sc.waits.length with h0 | h0
  · obtain ⟨A, c2, rfl, -, -⟩ := own_form ho
    rw [h0] at q1
    have e : sc.waits = [] := List.length_eq_zero_iff.1 h0
    rw [e]
    exact (newest_none g (2 * k) lv' A c2 w q0 q1).mono fun e w' hh => ⟨⟨lv', hh.1, ht⟩, hh.2⟩
  · obtain ⟨A, c2, rfl, -, -⟩ := own_form ho
    obtain ⟨b2, rfl, hb2, hb2'⟩ := own_pos ho h0
    obtain ⟨m, hm⟩ : ∃ m, sc.waits.length = m + 1 := ⟨sc.waits.length - 1, by omega⟩
    have hLl : L.length = m + 1 := by have := ho.1; omega
    have hu : L[m]? = some (L[m]'(by omega)) := List.getElem?_eq_getElem (by omega)
    have hl : sc.waits[m]? = some (sc.waits[m]'(by omega)) := List.getElem?_eq_getElem (by omega)
    have hx := hT m _ _ hu hl
    have e : sc.waits.getLast?.getD sc.last = sc.waits[m]'(by omega) := by
      have e' : sc.waits.length - 1 = m := by omega
      rw [List.getLast?_eq_getElem?, e', hl]; rfl
    rw [e]
    have qc : w.cell? ⟨b2, 0 + m, none⟩ = some (L[m]'(by omega)) := by rw [Nat.zero_add]; exact (ho.cellAt m (by omega)).trans hu
    rw [hm] at q1
    have h1 : (L[m]'(by omega)).oneCell' = true := by obtain ⟨A, c, e, _⟩ := hx; rw [e]; rfl
    exact (newest_some g (2 * k) b2 0 _ m c2 w (by omega) q1 qc h1).mono fun e w' hh => ⟨⟨_, hh.1, hx⟩, hh.2⟩
def RetB2 (l : List Nat) (no : Int) (w : World) (e : Ending) (w' : World) : Prop :=
  ∃ A c, e = .returned (.tuple #[.slice A l.length c, .int .u16 no]) ∧ w'.ownsRow w.heap.size 5 1 (.slice A l.length c) l.length (l.map byteV) ∧ Below w.heap.size w w' ∧ Small l
theorem read_none (h : DevAt D w F gp s lv X) (n : Nat) (hn : n < 256) (i : Int) (hi : ¬ D.has n i) :
    Calls Tryz.prog 25 #[.pointer (some ⟨gp, 0, none⟩), .int .u8 n, .int .i64 i] w fun e w' => e = .returned (.tuple #[.slice none 0 0, .int .u16 50]) ∧ w = w' := by
  have ha := at_none h n hn i hi
  clear h
  go_enter Tryz.func25, Tryz.ntmps25
  go_wp2_with (go_at_call 74; refine ha.mono ?_; rintro e w1 ⟨rfl, rfl⟩)
  go_ret2
  exact ⟨rfl, rfl⟩
theorem read_some (h : DevAt D w F gp s lv X) (n : Nat) (hn : n < 2) (k : Nat) (hk : k < (D.f n).length) (hL : (D.f n).length ≤ 4096) (hw : (D.f n)[k].waits.length ≤ 100000) (hl : (D.f n)[k].newest.length ≤ 1000000) :
    Calls Tryz.prog 25 #[.pointer (some ⟨gp, 0, none⟩), .int .u8 n, .int .i64 k] w (RetB2 (D.f n)[k].newest 0 w) := by
  obtain ⟨g, c, _, _, es, -⟩ := sector_at h hn hk
  have ha := at_some h n hn k hk hL es
  have hnw := newest_any h hn hk hw es
  generalize (D.f n)[k].newest = l at *
  clear h
  go_enter Tryz.func25, Tryz.ntmps25
  go_wp2_with fail
  refine ha.mono ?_
  rintro e w1 ⟨rfl, rfl⟩
  go_wp2_with fail
  refine hnw.mono ?_
  rintro e w1 ⟨⟨u, rfl, ht⟩, rfl⟩
  obtain ⟨A, c1, rfl, hc1, hb⟩ := ht.bytes
  have hcl := clone_any A c1 l _ w hb (Nat.le_refl _) hl
  clear ht
  go_wp2_with fail
  refine hcl.mono ?_
  rintro e w2 ⟨A2, c2, rfl, ho, hb2, hs⟩
  go_wp2
  go_ret2
  exact ⟨A2, c2, rfl, ho, hb2, hs⟩
end
def DevP.goes (D : DevP) : Bool × DevP :=
  match D.left with
  | none => (true, D)
  | some 0 => (false, { D with halted := true })
  | some (m + 1) => (true, { D with left := some m })
theorem DevP.goes_f (D : DevP) : D.goes.2.f = D.f := by
  unfold DevP.goes
  split <;> rfl
section
variable {D : DevP} {w : World} {F : Nat → Prop} {gp : Nat} {s : Nat → Value} {lv : Value} {X : Nat → List Value}
def Hard (F : Nat → Prop) (w : World) (b : Nat) : Prop := F b ∧ ¬ U8 w b
theorem goes_any (h : DevAt D w F gp s lv X) :
    Calls Tryz.prog 119 #[.pointer (some ⟨gp, 0, none⟩)] w fun e w' => e = .returned (.bool D.goes.1) ∧ DevAt D.goes.2 w' F gp s lv X ∧ Only (Hard F w) w w' := by
  obtain ⟨f, left, halted⟩ := D
  have hb := h.blk.cell
  have hgp : ¬ U8 w gp := fun q => absurd (q.uniq' h.blk.ty) (by decide)
  cases left with
  | none =>
    have c2 : w.cell? ⟨gp, 2, none⟩ = some (.pointer none) := by
      have e : lv = .pointer none := h.left
      subst e
      exact hb 2
    exact (goes_all gp w c2).mono fun e w' ⟨h1, h2⟩ => by
      subst h2
      exact ⟨h1, h, Only.refl _ _⟩
  | some n =>
    obtain ⟨gl, e, hFl, hbl, hn⟩ := h.left
    subst e
    have hgl : ¬ U8 w gl := fun q => absurd (q.uniq' hbl.ty) (by decide)
    have c2 : w.cell? ⟨gp, 2, none⟩ = some (.pointer (some ⟨gl, 0, none⟩)) := hb 2
    have cl : w.cell? ⟨gl, 0, none⟩ = some (.int .i64 n) := hbl.cell 0
    cases n with
    | zero =>
      have c3 : w.cell? ⟨gp, 3, none⟩ = some (.bool halted) := hb 3
      refine (goes_zero gp gl _ w c2 c3 (h.blk.frozen 3) cl).mono fun e w' ⟨h1, h2⟩ => ?_
      subst h2
      have ho : Only (fun b => b = gp) w (w.setCell ⟨gp, 3, none⟩ (.bool true)) := (Only.refl (fun b => b = gp) _).setCell (p := ⟨gp, 3, none⟩) (.inl rfl) _
      have hfar : Far w 71 (fun b => b = gp) := fun b q hb => by
        subst q
        exact ⟨_, h.blk.ty, by decide, by decide, by decide⟩
      have hne : gl ≠ gp := fun q => by
        subst q
        exact absurd (hbl.ty.uniq h.blk.ty) (by decide)
      exact ⟨h1, ⟨h.toFilesAt.far ho hfar, h.blk.set_ 3 _, h.inF, ⟨gl, rfl, hFl, hbl.far hne _, hn⟩⟩, ho.mono fun b q => .inl (by subst q; exact ⟨h.inF, hgp⟩)⟩
    | succ m =>
      refine (goes_more gp gl m hn w c2 cl (hbl.frozen 0)).mono fun e w' ⟨h1, h2⟩ => ?_
      subst h2
      have ho : Only (fun b => b = gl) w (w.setCell ⟨gl, 0, none⟩ (.int .i64 m)) := (Only.refl (fun b => b = gl) _).setCell (p := ⟨gl, 0, none⟩) (.inl rfl) _
      have hfar : Far w 71 (fun b => b = gl) := fun b q hb => by
        subst q
        exact ⟨_, hbl.ty, by decide, by decide, by decide⟩
      have hne : gp ≠ gl := fun q => by
        subst q
        exact absurd (hbl.ty.uniq h.blk.ty) (by decide)
      exact ⟨h1, ⟨h.toFilesAt.far ho hfar, h.blk.far hne _, h.inF, ⟨gl, rfl, hFl, hbl.set_ 0 _, by omega⟩⟩, ho.mono fun b q => .inl (by subst q; exact ⟨hFl, hgl⟩)⟩
end
end Go.Proofs.YtkganajbilnanaaGreat
namespace Go.Proofs.YtkganajbilnanaaGreat
def DevP.good (D : DevP) (N : Nat) : Prop := ∀ n, n < 2 → (D.f n).length ≤ 4096 ∧ ∀ s ∈ D.f n, s.last.length = 128 ∧ s.waits.length ≤ N ∧ ∀ l ∈ s.waits, l.length = 128
theorem DevP.good.mono {D : DevP} {N M : Nat} (h : D.good N) (hm : N ≤ M) : D.good M := fun n hn => ⟨(h n hn).1, fun s hs => ⟨((h n hn).2 s hs).1, Nat.le_trans ((h n hn).2 s hs).2.1 hm, ((h n hn).2 s hs).2.2⟩⟩
theorem DevP.good.at_ {D : DevP} {N : Nat} (h : D.good N) {n : Nat} (hn : n < 2) {k : Nat} (hk : k < (D.f n).length) : (D.f n)[k].last.length = 128 ∧ (D.f n)[k].waits.length ≤ N ∧ ∀ l ∈ (D.f n)[k].waits, l.length = 128 := (h n hn).2 _ (List.getElem_mem hk)
theorem newest_128 {s : Sect} (h1 : s.last.length = 128) (h2 : ∀ l ∈ s.waits, l.length = 128) : s.newest.length = 128 := by
  unfold Sect.newest
  cases h : s.waits.getLast? with
  | none => exact h1
  | some l => exact h2 l (List.mem_of_getLast? h)
theorem DevP.good.goes {D : DevP} {N : Nat} (h : D.good N) : D.goes.2.good N := fun n hn => by rw [DevP.goes_f]; exact h n hn
def DevP.put (D : DevP) (n k : Nat) (s : Sect) : DevP := { D with f := putD D.f n k s }
def Sect.more (s : Sect) (l : List Nat) : Sect := ⟨s.last, s.waits ++ [l]⟩
def DevP.sect (D : DevP) (n k : Nat) : Sect := (D.f n)[k]?.getD ⟨[], []⟩
theorem DevP.sect_eq {D : DevP} {n k : Nat} (hk : k < (D.f n).length) : D.sect n k = (D.f n)[k] := by
  unfold DevP.sect
  rw [List.getElem?_eq_getElem hk]
  rfl
instance (D : DevP) (n : Nat) (i : Int) : Decidable (D.has n i) := by unfold DevP.has; exact inferInstance
def DevP.write (D : DevP) (n : Nat) (i : Int) (l : List Nat) : Nat × DevP :=
  if D.has n i then (if l.length = 128 then (0, if D.goes.1 then D.goes.2.put n i.toNat ((D.sect n i.toNat).more l) else D.goes.2) else (1, D)) else (50, D)
def DevP.read (D : DevP) (n : Nat) (i : Int) : List Nat × Nat := if D.has n i then ((D.sect n i.toNat).newest, 0) else ([], 50)
def DevP.waits (D : DevP) (n : Nat) (i : Int) : Nat := if D.has n i then (D.sect n i.toNat).waits.length else 0
def mapF (D : DevP) (n : Nat) (g : Nat → Sect → Sect) (m : Nat) : List Sect := if m = n then (D.f m).mapIdx g else D.f m
def DevP.sync (D : DevP) (n : Nat) : DevP := if n < 2 then (if D.goes.1 then { D.goes.2 with f := mapF D n fun _ s => ⟨s.newest, []⟩ } else D.goes.2) else D
def DevP.halt (D : DevP) (n : Int) : DevP := { D with left := some (max n 0).toNat }
def DevP.image (D : DevP) (n : Nat) : List (List Nat) := if n < 2 then (D.f n).map Sect.last else []
structure FateP where
  file : Nat
  sector : Int
  keep : Int
  torn : Int
def FateP.zero : FateP := ⟨0, 0, 0, 0⟩
def fateFor (l : List FateP) (n k : Nat) : FateP := (l.find? fun x => decide (x.file = n) && decide (x.sector = (k : Int))).getD FateP.zero
def keepN (s : Sect) (f : FateP) : Nat := min (max f.keep 0).toNat s.waits.length
def keptL (s : Sect) (k : Nat) : List Nat := if k = 0 then s.last else s.waits[k - 1]?.getD []
def Sect.crash (s : Sect) (f : FateP) : Sect :=
  ⟨if keepN s f < s.waits.length then (s.waits[keepN s f]?.getD []).take (min (max f.torn 0).toNat 128) ++ (keptL s (keepN s f)).drop (min (max f.torn 0).toNat 128) else keptL s (keepN s f), []⟩
def DevP.crash (D : DevP) (l : List FateP) : DevP := ⟨fun n => (D.f n).mapIdx fun k s => s.crash (fateFor l n k), none, false⟩
def DevP.new (a b : Nat) : DevP := ⟨fun n => List.replicate (if n = 0 then a else if n = 1 then b else 0) ⟨List.replicate 128 0, []⟩, none, false⟩
theorem putD_length (f : Nat → List Sect) (n k : Nat) (s : Sect) (m : Nat) : (putD f n k s m).length = (f m).length := by
  unfold putD
  split
  · rw [List.length_set]
  · rfl
theorem DevP.good.put {D : DevP} {N : Nat} (h : D.good N) {n k : Nat} {s : Sect} (h1 : s.last.length = 128) (h2 : s.waits.length ≤ N) (h3 : ∀ l ∈ s.waits, l.length = 128) : (D.put n k s).good N := fun m hm => by
  refine ⟨by show (putD D.f n k s m).length ≤ _; rw [putD_length]; exact (h m hm).1, fun s' hs => ?_⟩
  have : s' ∈ putD D.f n k s m := hs
  unfold putD at this
  split at this
  · rcases List.mem_or_eq_of_mem_set this with q | q
    · exact (h m hm).2 s' q
    · subst q
      exact ⟨h1, h2, h3⟩
  · exact (h m hm).2 s' this
theorem DevP.good.write {D : DevP} {N : Nat} (h : D.good N) (n : Nat) (i : Int) (l : List Nat) : (D.write n i l).2.good (N + 1) := by
  unfold DevP.write
  split
  · rename_i hh
    obtain ⟨h1, h2, h3⟩ := hh
    split
    · rename_i hl
      split
      · have hk : i.toNat < (D.f n).length := by omega
        obtain ⟨q1, q2, q3⟩ := h.at_ h1 hk
        rw [DevP.sect_eq hk]
        refine (h.goes.mono (Nat.le_succ N)).put q1 (by simp [Sect.more]; exact q2) fun x hx => ?_
        rcases List.mem_append.1 hx with z | z
        · exact q3 x z
        · rw [List.mem_singleton.1 z]; exact hl
      · exact h.goes.mono (Nat.le_succ N)
    · exact h.mono (Nat.le_succ N)
  · exact h.mono (Nat.le_succ N)
theorem mapF_length (D : DevP) (n : Nat) (g : Nat → Sect → Sect) (m : Nat) : (mapF D n g m).length = (D.f m).length := by
  unfold mapF
  split
  · rw [List.length_mapIdx]
  · rfl
theorem DevP.good.sync {D : DevP} {N : Nat} (h : D.good N) (n : Nat) : (D.sync n).good N := by
  unfold DevP.sync
  split
  · split
    · intro m hm
      refine ⟨by show (mapF D n _ m).length ≤ _; rw [mapF_length]; exact (h m hm).1, fun s' hs => ?_⟩
      have : s' ∈ mapF D n (fun _ s => ⟨s.newest, []⟩) m := hs
      unfold mapF at this
      split at this
      · obtain ⟨i, hi, rfl⟩ := List.mem_mapIdx.1 this
        obtain ⟨q1, q2, q3⟩ := h.at_ hm hi
        exact ⟨newest_128 q1 q3, Nat.zero_le _, fun x hx => by cases hx⟩
      · exact (h m hm).2 s' this
    · exact h.goes
  · exact h
theorem keptL_128 {s : Sect} (h1 : s.last.length = 128) (h2 : ∀ l ∈ s.waits, l.length = 128) {k : Nat} (hk : k ≤ s.waits.length) : (keptL s k).length = 128 := by
  unfold keptL
  split
  · exact h1
  · rw [List.getElem?_eq_getElem (by omega)]
    exact h2 _ (List.getElem_mem _)
theorem crash_128 {s : Sect} (h1 : s.last.length = 128) (h2 : ∀ l ∈ s.waits, l.length = 128) (f : FateP) : (s.crash f).last.length = 128 := by
  have hk : keepN s f ≤ s.waits.length := Nat.min_le_right _ _
  have q := keptL_128 h1 h2 hk
  unfold Sect.crash
  dsimp only
  split
  · rename_i hlt
    rw [List.length_append, List.length_take, List.length_drop, q, List.getElem?_eq_getElem hlt, Option.getD_some, h2 _ (List.getElem_mem _)]
    omega
  · exact q
theorem DevP.good.crash {D : DevP} {N : Nat} (h : D.good N) (l : List FateP) : (D.crash l).good 0 := fun n hn => by
  refine ⟨by show ((D.f n).mapIdx _).length ≤ _; rw [List.length_mapIdx]; exact (h n hn).1, fun s' hs => ?_⟩
  have : s' ∈ (D.f n).mapIdx fun k s => s.crash (fateFor l n k) := hs
  obtain ⟨i, hi, rfl⟩ := List.mem_mapIdx.1 this
  obtain ⟨q1, q2, q3⟩ := h.at_ hn hi
  exact ⟨crash_128 q1 q3 _, Nat.zero_le _, fun x hx => by cases hx⟩
theorem DevP.good_new {a b : Nat} (ha : a ≤ 4096) (hb : b ≤ 4096) : (DevP.new a b).good 0 := fun n hn => by
  refine ⟨?_, fun s hs => ?_⟩
  · show (List.replicate _ _).length ≤ _
    rw [List.length_replicate]
    split
    · exact ha
    · split
      · exact hb
      · omega
  · have : s ∈ List.replicate (if n = 0 then a else if n = 1 then b else 0) (⟨List.replicate 128 0, []⟩ : Sect) := hs
    rw [(List.mem_replicate.1 this).2]
    exact ⟨List.length_replicate .., Nat.zero_le _, fun x hx => by cases hx⟩
end Go.Proofs.YtkganajbilnanaaGreat
namespace Go.Proofs.YtkganajbilnanaaGreat
open Go.ChangeShapes Go.WideShapes Go.ChangeAt Go.RowKit
set_option maxRecDepth 20000
theorem row_info : (Tryz.prog.info? 45).map (fun i => (i.zero, i.size, i.bytes)) = some (some (.slice none 0 0), 1, 24) := by kernel_rfl
def DevPost (D' : DevP) (F : Nat → Prop) (p : Value) (w w' : World) : Prop := IsDev D' w' (grow F w w') p ∧ Only F w w'
theorem DevPost.refl {D : DevP} {F : Nat → Prop} {p : Value} {w : World} (h : IsDev D w F p) : DevPost D F p w w := ⟨h.mono fun b q => .inl q, Only.refl _ _⟩
theorem BytesIn.only {w w' : World} {S T : Nat → Prop} {A : Option Addr} {l : List Nat} (h : BytesIn w T A l) (ho : Only S w w') (hd : ∀ b, T b → ¬ S b) : BytesIn w' T A l := h.stays (ho.stays hd)
section
variable {D : DevP} {w : World} {F : Nat → Prop} {gp : Nat} {s : Nat → Value} {lv : Value} {X : Nat → List Value}
theorem kept_below {w w' : World} (h : Below w.heap.size w w') {base : Nat} {e : TypeId} {s : Nat} {v : Value} {n : Nat} {xs : List Value} (ho : w.ownsRow base e s v n xs) : w'.ownsRow base e s v n xs := kept_none (below_none h) ho
theorem grow_trans {F : Nat → Prop} {w w1 w2 : World} (h : w.heap.size ≤ w1.heap.size) : ∀ b, grow F w1 w2 b → grow F w w2 b := fun b q => q.imp id fun z => ⟨by omega, z.2⟩
theorem hard_back {F : Nat → Prop} {w w1 : World} (hF : ∀ b, F b → b < w.heap.size) (h : Only (Hard F w) w w1) {b : Nat} (q : Hard F w1 b) : Hard F w b ∨ w.heap.size ≤ b :=
  .inl ⟨q.1, fun hu => q.2 (hu.only hu.lt h fun z => z.2 hu)⟩
theorem sector_store {w w' : World} {g m c c2 : Nat} {A : Option Addr} {X L : List Value} {j : Nat} (h : w.ownsRow 0 71 2 (.slice (some ⟨g, 0, none⟩) m c) m X) {m2 : Nat} (h2 : w.ownsRow 0 45 1 (.slice A m2 c2) m2 L) {o : Obj} (hg : (w.alloc o).grownBy w' (Value.slice A m2 c2).ownBlock) (hj : j < 2 * m) :
    w'.frozen? ⟨g, j, none⟩ = false ∧ ∃ v, w'.cell? ⟨g, j, none⟩ = some v := by
  have h3 := (kept_none (below_none ((Below.refl _ _).alloc (Nat.le_refl w.heap.size) o)) h).kept hg (own_apart (by decide) (kept_none (below_none ((Below.refl _ _).alloc (Nat.le_refl w.heap.size) o)) h) (kept_none (below_none ((Below.refl _ _).alloc (Nat.le_refl w.heap.size) o)) h2))
  refine ⟨h3.frozenAt j, ?_⟩
  have := h3.cellAt j (by omega)
  have hl := h3.1
  rw [List.getElem?_eq_getElem (by omega)] at this
  exact ⟨_, this⟩
theorem DevAt.more {w1 w2 w3 : World} {A A2 A5 : Option Addr} {n k c c2 c4 c5 m : Nat} {L : List Value} {l : List Nat} (h : DevAt D w F gp s lv X) (hF : ∀ b, F b → b < w.heap.size) (hn : n < 2) (hk : k < (D.f n).length)
    {g : Nat} (es : s n = .slice (some ⟨g, 0, none⟩) (D.f n).length c) {lw : Value} (e1 : (X n)[2 * k]? = some lw) (e2 : (X n)[2 * k + 1]? = some (.slice A m c2)) (ht : Txt w F lw (D.f n)[k].last)
    (hm : (D.f n)[k].waits.length = m) (how : w.ownsRow 0 45 1 (.slice A m c2) m L) (hFw : ∀ b, (Value.slice A m c2).ownBlock = some b → F b) (hL : ∀ (j : Nat) (u : Value) (t : List Nat), L[j]? = some u → (D.f n)[k].waits[j]? = some t → Txt w F u t)
    (hb : Below w.heap.size w w1) (hc : w1.ownsRow w.heap.size 5 1 (.slice A2 128 c4) 128 (l.map byteV)) (hs : Small l) (hl : l.length = 128)
    (ho : w2.ownsRow 0 45 1 (.slice A5 (m + 1) c5) (m + 1) (L ++ [.slice A2 128 c4])) (hg : (w1.alloc (.cells #[.slice A2 128 c4] 45)).grownBy w2 (Value.slice A m c2).ownBlock)
    (hat : (Value.slice A5 (m + 1) c5).ownBlock = (Value.slice A m c2).ownBlock ∨ (Value.slice A5 (m + 1) c5).ownBlock = some (w1.alloc (.cells #[.slice A2 128 c4] 45)).heap.size)
    (e3 : w3 = w2.setCell ⟨g, 2 * k + 1, none⟩ (.slice A5 (m + 1) c5)) :
    DevAt (D.put n k ((D.f n)[k].more l)) w3 (grow F w w3) gp s lv (updX X n ((X n).set (2 * k + 1) (.slice A5 (m + 1) c5))) ∧ Only (Hard F w) w w3 := by
  have hba : Below w.heap.size w (w1.alloc (.cells #[.slice A2 128 c4] 45)) := hb.alloc hb.size _
  generalize ew1 : w1.alloc (.cells #[.slice A2 128 c4] 45) = wa at *
  have hsz1 := hba.size
  have hsz2 := hg.size
  have hsz3 : w3.heap.size = w2.heap.size := by rw [e3]; simp [World.setCell]
  have hgw : g < w.heap.size := by
    have := (h.file n hn).1.lt g (by rw [es]; rfl)
    exact this.2
  have hFg : F g := (h.file n hn).2.1 g (by rw [es]; rfl)
  -- the device in wa
  have ho1 : Only (fun _ => False) w wa := Only.of_below hba _
  have a1 : FilesBut 71 D.f wa F s X n k := (h.toFilesAt.only ho1 fun _ _ q => q).but n k
  have how1 : wa.ownsRow 0 45 1 (.slice A m c2) m L := ho1.own how fun _ _ q => q
  have ht1 := ht.only ho1 fun _ _ _ q => q
  have hL1 := fun j u t q q' => (hL j u t q q').only ho1 fun _ _ _ q => q
  have hc1 : wa.ownsRow w.heap.size 5 1 (.slice A2 128 c4) 128 (l.map byteV) := by
    rw [← ew1]
    exact kept_none (below_none ((Below.refl _ _).alloc (Nat.le_refl _) _)) hc
  -- .. in w2
  have ho2 : Only (fun b => (Value.slice A m c2).ownBlock = some b) wa w2 := Only.of_grown hg fun b e => .inl e
  have hu2 : ∀ b, F b → U8 wa b → ¬ (Value.slice A m c2).ownBlock = some b := fun b _ hb e => absurd ((own_ty how1 e).uniq hb) (by decide)
  have a2 : FilesBut 71 D.f w2 F s X n k := a1.wrote hn (by decide) e2 how1 hg
  have ht2 := ht1.only ho2 hu2
  have hL2 := fun j u t q q' => (hL1 j u t q q').only ho2 hu2
  have hc2 : w2.ownsRow w.heap.size 5 1 (.slice A2 128 c4) 128 (l.map byteV) := hc1.kept hg (own_apart (by decide) hc1 how1)
  have b2 : Blk w2 gp 67 #[s 0, s 1, lv, .bool D.halted] := (h.blk.only ho1 (fun q => q)).grown hg fun e => absurd ((own_ty how1 e.symm).uniq (h.blk.only ho1 fun q => q).ty) (by decide)
  have l2 : IsLeft w2 F lv D.left := by
    cases hleft : D.left with
    | none => have := h.left; rw [hleft] at this; exact this
    | some q =>
      have := h.left
      rw [hleft] at this
      obtain ⟨gl, q1, q2, q3, q4⟩ := this
      exact ⟨gl, q1, q2, (q3.only ho1 fun q => q).grown hg fun e => absurd ((own_ty how1 e.symm).uniq (q3.only ho1 fun q => q).ty) (by decide), q4⟩
  -- the new values
  have hFG : ∀ b, F b → grow F w w3 b := fun b q => .inl q
  have hnew : Txt w2 (grow F w w3) (.slice A2 128 c4) l := Txt.own hc2 hl hs fun b e => .inr ⟨(hc2.lt b e).1, by have := (hc2.lt b e).2; omega⟩
  have hown : ∀ b, (Value.slice A5 (m + 1) c5).ownBlock = some b → grow F w w3 b := fun b e => by
    rcases hat with q | q
    · exact .inl (hFw b (q.symm.trans e))
    · rw [q] at e
      injection e with e
      subst e
      exact .inr ⟨hsz1, by have := (ho.lt _ q).2; omega⟩
  have hWn : IsWaits w2 (grow F w w3) (.slice A5 (m + 1) c5) ((D.f n)[k].more l).waits := by
    refine ⟨L ++ [.slice A2 128 c4], by simp only [Sect.more, List.length_append, hm, List.length_singleton]; exact ho, hown, fun j u t hu ht' => ?_⟩
    have hLl : L.length = m := by have := how.1; omega
    rcases Nat.lt_trichotomy j m with q | q | q
    · rw [List.getElem?_append_left (by omega)] at hu
      simp only [Sect.more] at ht'
      rw [List.getElem?_append_left (by omega)] at ht'
      exact (hL2 j u t hu ht').mono fun b z _ => .inl z
    · subst q
      rw [List.getElem?_append_right (by omega), hLl] at hu
      simp only [Sect.more] at ht'
      rw [List.getElem?_append_right (by omega), hm] at ht'
      simp at hu ht'
      subst hu
      subst ht'
      exact hnew
    · rw [List.getElem?_eq_none (by simp; omega)] at hu
      cases hu
  have hrow2 : w2.ownsRow 0 71 2 (s n) (D.f n).length (X n) := (a2.row n hn).1
  rw [es] at hrow2
  have hst := (hrow2.stored (2 * k + 1) (.slice A5 (m + 1) c5)).1
  rw [← e3, ← es] at hst
  have hXl : (X n).length = 2 * (D.f n).length := by have := hrow2.1; omega
  have hone : Only (fun b => (s n).ownBlock = some b) w2 w3 := by
    rw [e3, es]
    exact (Only.refl (fun b => (Value.slice (some ⟨g, 0, none⟩) (D.f n).length c).ownBlock = some b) w2).setCell (p := ⟨g, 2 * k + 1, none⟩) (.inl rfl) _
  have hb3 : ∀ b, b ≠ g → w3.heap[b]? = w2.heap[b]? := fun b hb => by
    rw [e3]
    exact Below.heap_setCell w2 ⟨g, 2 * k + 1, none⟩ _ b hb
  have htyg : Ty w2 g 71 := own_ty hrow2 rfl
  have hgp : gp ≠ g := fun q => by subst q; exact absurd (b2.ty.uniq htyg) (by decide)
  refine ⟨⟨(a2.mono hFG).put hn (by decide) (by decide) hst (lv := lw) (wv := .slice A5 (m + 1) c5) ?_ ?_ ?_ hone (ht2.mono fun b q _ => .inl q) hWn ?_, ?_, .inl h.inF, ?_⟩, ?_⟩
  · rw [List.getElem?_set_ne (by omega)]
    exact e1
  · rw [List.getElem?_set_self (by omega)]
  · exact fun j h1 h2 => List.getElem?_set_ne (by omega)
  · intro m' i u hm' hne hu
    rcases h.apart m' i n k u _ hm' hn hne hu e2 with z | z
    · exact .inl z
    · cases hz : u.ownBlock with
      | none => exact .inl rfl
      | some b =>
        right; right
        intro q
        rcases hat with y | y
        · exact z (hz.trans (q.trans y))
        · rw [q.symm] at y
          injection y with y
          have : u.ownBlock = some b := hz
          have hub : b < w.heap.size := by
            have hX' := (h.file m' hm').1.1
            have hi : i < (D.f m').length := by
              have := (List.getElem?_eq_some_iff.1 hu).1
              omega
            obtain ⟨_, wv', _, q2, _, q4⟩ := (h.file m' hm').2.2 i _ (List.getElem?_eq_getElem hi)
            rw [hu] at q2
            injection q2 with q2
            subst q2
            obtain ⟨L', r1, _⟩ := q4
            exact (r1.lt b hz).2
          omega
  · show Blk w3 gp 67 #[s 0, s 1, lv, .bool D.halted]
    rw [e3]
    exact b2.far hgp _
  · show IsLeft w3 (grow F w w3) lv D.left
    refine IsLeft.mono ?_ hFG
    cases hleft : D.left with
    | none => rw [hleft] at l2; exact l2
    | some q =>
      rw [hleft] at l2
      obtain ⟨gl, q1, q2, q3, q4⟩ := l2
      refine ⟨gl, q1, q2, ?_, q4⟩
      rw [e3]
      exact q3.far (fun q => by subst q; exact absurd (q3.ty.uniq htyg) (by decide)) _
  · have hA : Only (Hard F w) w w2 := (ho1.mono (S' := Hard F w) fun _ q => q.elim).trans ho2 fun b q => by
      left
      refine ⟨hFw b q, fun hu => ?_⟩
      exact absurd ((own_ty how q).uniq hu) (by decide)
    rw [e3]
    refine hA.setCell (p := ⟨g, 2 * k + 1, none⟩) (.inl ⟨hFg, fun hu => ?_⟩) _
    have hr := (h.file n hn).1
    exact absurd ((own_ty hr (by rw [es]; rfl)).uniq hu) (by decide)
set_option maxHeartbeats 2000000 in
theorem write_some (h : IsDev D w F (.pointer (some ⟨gp, 0, none⟩))) (hF : ∀ b, F b → b < w.heap.size) {N : Nat} (hG : D.good N) (hN : N ≤ 100000) {n k : Nat} (hn : n < 2) (hk : k < (D.f n).length) (A : Option Addr) (c : Nat) (l : List Nat) (hl : BytesIn w (fun b => ¬ F b) A l) (h128 : l.length = 128) :
    Calls Tryz.prog 79 #[.pointer (some ⟨gp, 0, none⟩), .int .u8 n, .int .i64 k, .slice A l.length c] w fun e w' => e = .returned (.int .u16 0) ∧ DevPost (D.write n k l).2 F (.pointer (some ⟨gp, 0, none⟩)) w w' := by
  obtain ⟨gp', s, lv, X, e, h⟩ := h
  injection e with e
  injection e with e
  injection e with e
  subst e
  obtain ⟨i0, hi0, hz0, hz1, hz2⟩ := info_parts row_info
  obtain ⟨g, c1, lw, wv, es, q0, q1, ht, hW, hFg, hgw, x1, x2⟩ := sector_at h hn hk
  have ha := at_some h n hn k hk (hG n hn).1 es
  have hgo := goes_any h
  have hD : (D.write n k l).2 = if D.goes.1 then D.goes.2.put n k ((D.f n)[k].more l) else D.goes.2 := by
    unfold DevP.write
    have hh : D.has n (k : Int) := ⟨hn, by omega, by omega⟩
    rw [if_pos hh, if_pos h128, Int.toNat_natCast, DevP.sect_eq hk]
  rw [hD]
  clear hD
  have hne : ((l.length : Int) != 128) = false := by rw [h128]; rfl
  rw [h128] at hne ⊢
  cases hg : D.goes.1 with
  | false =>
    rw [hg] at hgo
    generalize D.goes.2 = D' at *
    clear h q0 q1 ht hW hG
    go_enter Tryz.func79, Tryz.ntmps79
    go_wp2_with fail
    refine ha.mono ?_
    rintro e w1 ⟨rfl, rfl⟩
    go_wp2_with fail
    refine hgo.mono ?_
    rintro e w1 ⟨rfl, h1, h2⟩
    have hfin : DevPost D' F (.pointer (some ⟨gp, 0, none⟩)) w w1 := ⟨⟨gp, s, lv, X, rfl, ⟨h1.toFilesAt.mono fun b q => .inl q, h1.blk, .inl h1.inF, h1.left.mono fun b q => .inl q⟩⟩, h2.mono fun b q => .inl q.1⟩
    clear h1 h2
    go_wp2
    go_ret
    exact ⟨rfl, hfin⟩
  | true =>
    rw [hg] at hgo
    have hgf := D.goes_f
    generalize hD' : D.goes.2 = D' at *
    have hGk := hG.at_ hn hk
    go_enter Tryz.func79, Tryz.ntmps79
    go_wp2_with fail
    refine ha.mono ?_
    rintro e w1 ⟨rfl, rfl⟩
    go_wp2_with fail
    refine hgo.mono ?_
    rintro e w1 ⟨rfl, h1, h2⟩
    obtain ⟨f0, left0, hal0⟩ := D'
    simp only at hgf
    subst hgf
    clear hD' hgo
    obtain ⟨g', c1', lw, wv, es', q0, q1, ht, hW, hFg, hgw, x1, x2⟩ := sector_at (D := ⟨D.f, left0, hal0⟩) h1 hn hk
    simp only at es' ht hW
    rw [es] at es'
    injection es' with e1 _ _
    injection e1 with e1
    injection e1 with e1 _
    subst e1
    obtain ⟨L, how, hFw, hTw⟩ := hW
    obtain ⟨A5, c5, rfl, -, -⟩ := own_form how
    have hmN := hGk.2.1
    obtain ⟨m, hm⟩ : ∃ m, (D.f n)[k].waits.length = m := ⟨_, rfl⟩
    rw [hm] at how hFw q1 hmN x2
    have HM := Lib.hid hm
    clear hm
    have hF1 : ∀ b, F b → b < w1.heap.size := fun b q => Nat.lt_of_lt_of_le (hF b q) h2.size
    have hfr : w1.frozen? ⟨g, 2 * k + 1, none⟩ = false := by
      have := (h1.file n hn).1
      rw [es] at this
      exact this.frozenAt _
    have hl1 := (hl.only h2 fun b q q' => q q'.1).bytes
    have hcl : Calls Tryz.prog 21 #[.slice A 128 c] w1.drew (RetBytes 5 l w1.drew) := by
      have := clone_any A c l w1.heap.size w1.drew hl1 (Nat.le_refl _) (by omega)
      rw [h128] at this
      exact this
    have hrow0 : w1.ownsRow 0 71 2 (.slice (some ⟨g, 0, none⟩) (D.f n).length c1) (D.f n).length (X n) := by
      have := (h1.file n hn).1
      rw [es] at this
      exact this
    have hls : Small l := hl.2
    have hkj : 2 * k + 1 < 2 * (D.f n).length := by omega
    clear hl hl1 q0 h hW hGk ha
    have post : ∀ (Ac : Option Addr) (cc : Nat) (wc : World) (A6 : Option Addr) (c6 : Nat) (w6 : World), wc.ownsRow w1.heap.size 5 1 (.slice Ac 128 cc) 128 (l.map byteV) → Below w1.heap.size w1.drew wc →
        w6.ownsRow 0 45 1 (.slice A6 (m + 1) c6) (m + 1) (L ++ [.slice Ac 128 cc]) → (wc.alloc (.cells #[.slice Ac 128 cc] 45)).grownBy w6 (Value.slice A5 m c5).ownBlock →
        ((Value.slice A6 (m + 1) c6).ownBlock = (Value.slice A5 m c5).ownBlock ∨ (Value.slice A6 (m + 1) c6).ownBlock = some (wc.alloc (.cells #[.slice Ac 128 cc] 45)).heap.size) →
        DevPost ((⟨D.f, left0, hal0⟩ : DevP).put n k ((D.f n)[k].more l)) F (.pointer (some ⟨gp, 0, none⟩)) w (w6.setCell ⟨g, 2 * k + 1, none⟩ (.slice A6 (m + 1) c6)) := fun Ac cc wc A6 c6 w6 hc1 hb1 ho6 hg6 hat6 => by
      have hbw : Below w1.heap.size w1 wc := (below_drew0 w1).trans hb1
      have := DevAt.more (D := ⟨D.f, left0, hal0⟩) h1 hF1 hn hk es x1 x2 ht HM.out how hFw hTw hbw hc1 hls h128 ho6 hg6 hat6 rfl
      exact ⟨⟨gp, s, lv, _, rfl, ⟨this.1.toFilesAt.mono (grow_trans h2.size), this.1.blk, grow_trans h2.size _ this.1.inF, this.1.left.mono (grow_trans h2.size)⟩⟩, (h2.trans this.2 fun b q => hard_back hF h2 q).mono fun b q => .inl q.1⟩
    have POST := Lib.hid post
    clear post ht hTw x1 x2 hF1 hF h2 h1 es HM
    go_wp2_with fail
    go_region_law
      (first
        | (go_simp; go_at_call 21; refine hcl.mono ?_; intro e wc hret; obtain ⟨Ac, cc, rfl, hc1, hb1, -⟩ := hret; rw [h128] at hc1 ⊢; have hbw : Below w1.heap.size w1 wc := (below_drew0 w1).trans hb1; have qc : wc.cell? ⟨g, 2 * k + 1, none⟩ = some (.slice A5 m c5) := (hbw.cell (p := ⟨g, 2 * k + 1, none⟩) hgw).trans q1; have hzc := hbw.size; have qa : ∀ o, (wc.alloc o).cell? ⟨g, 2 * k + 1, none⟩ = some (.slice A5 m c5) := fun o => (((Below.refl wc.heap.size wc).alloc (Nat.le_refl _) o).cell (p := ⟨g, 2 * k + 1, none⟩) (Nat.lt_of_lt_of_le hgw hzc)).trans qc)
        | (have k4 := kept_below ((Below.refl wc.heap.size wc).alloc (Nat.le_refl _) (.cells #[.slice Ac 128 cc] 45)) (kept_below hbw how); refine step_append_at (by rfl) _ _ 22 22 (by rfl) 0 45 i0 _ 24 Tryz.underlying22 Tryz.underlying22 hi0 hz0 hz1 hz2 rfl (.slice A5 m c5) m L (by rfl) k4 (wc.heap.size + 1) (some ⟨wc.heap.size, 0, none⟩) 1 1 [.slice Ac 128 cc] (by rfl) rfl (At.new wc [.slice Ac 128 cc] 45 (0, 0)) (by simp [Value.oneCell']) (by unfold maxLen; omega) (by omega) (Nat.zero_le _) ?_; intro A6 c6 w6 hown6 hg6 hat6; have hP := Lib.hid (POST.out Ac cc wc A6 c6 w6 hc1 hb1 hown6 hg6 hat6); have hst := sector_store (j := 2 * k + 1) (kept_below hbw hrow0) (kept_below hbw how) hg6 hkj; have hstc := hst.1; obtain ⟨v6, hv6⟩ := hst.2))
    all_goals
      go_wp2
    all_goals
      go_ret
      exact ⟨rfl, hP.out⟩
theorem write_arg (h : IsDev D w F (.pointer (some ⟨gp, 0, none⟩))) {n k : Nat} (hn : n < 2) (hk : k < (D.f n).length) (hL : (D.f n).length ≤ 4096) (A : Option Addr) (c m : Nat) (hm : m ≠ 128) :
    Calls Tryz.prog 79 #[.pointer (some ⟨gp, 0, none⟩), .int .u8 n, .int .i64 k, .slice A m c] w fun e w' => e = .returned (.int .u16 1) ∧ w = w' := by
  obtain ⟨gp', s, lv, X, e, h⟩ := h
  injection e with e
  injection e with e
  injection e with e
  subst e
  obtain ⟨g, c1, lw, wv, es, -⟩ := sector_at h hn hk
  have ha := at_some h n hn k hk hL es
  have hne : ((m : Int) != 128) = true := by rw [bne_iff_ne]; omega
  clear h
  go_enter Tryz.func79, Tryz.ntmps79
  go_wp2_with fail
  refine ha.mono ?_
  rintro e w1 ⟨rfl, rfl⟩
  go_wp2
  go_ret
  exact ⟨rfl, rfl⟩
theorem write_none (h : IsDev D w F (.pointer (some ⟨gp, 0, none⟩))) (n : Nat) (hn : n < 256) (i : Int) (hi : ¬ D.has n i) (A : Option Addr) (c m : Nat) :
    Calls Tryz.prog 79 #[.pointer (some ⟨gp, 0, none⟩), .int .u8 n, .int .i64 i, .slice A m c] w fun e w' => e = .returned (.int .u16 50) ∧ w = w' := by
  obtain ⟨gp', s, lv, X, e, h⟩ := h
  injection e with e
  injection e with e
  injection e with e
  subst e
  have ha := at_none h n hn i hi
  clear h
  go_enter Tryz.func79, Tryz.ntmps79
  go_wp2_with fail
  refine ha.mono ?_
  rintro e w1 ⟨rfl, rfl⟩
  go_wp2
  go_ret
  exact ⟨rfl, rfl⟩
end
theorem write_any {D : DevP} {w : World} {F : Nat → Prop} {p : Value} (h : IsDev D w F p) (hF : ∀ b, F b → b < w.heap.size) {N : Nat} (hG : D.good N) (hN : N ≤ 100000) (n : Nat) (hn : n < 256) (i : Int) (A : Option Addr) (c : Nat) (l : List Nat) (hl : BytesIn w (fun b => ¬ F b) A l) :
    Calls Tryz.prog 79 #[p, .int .u8 n, .int .i64 i, .slice A l.length c] w fun e w' => e = .returned (.int .u16 ((D.write n i l).1 : Nat)) ∧ DevPost (D.write n i l).2 F p w w' := by
  have hp := h
  obtain ⟨gp, s, lv, X, rfl, h'⟩ := hp
  by_cases hh : D.has n i
  · obtain ⟨h1, h2, h3⟩ := hh
    obtain ⟨k, rfl⟩ := Int.eq_ofNat_of_zero_le h2
    have hk : k < (D.f n).length := by omega
    by_cases hl8 : l.length = 128
    · have e1 : (D.write n (k : Nat) l).1 = 0 := by
        unfold DevP.write
        rw [if_pos ⟨h1, h2, h3⟩, if_pos hl8]
      rw [e1]
      exact write_some h hF hG hN h1 hk A c l hl hl8
    · have e1 : D.write n (k : Nat) l = (1, D) := by
        unfold DevP.write
        rw [if_pos ⟨h1, h2, h3⟩, if_neg hl8]
      rw [e1]
      refine (write_arg h h1 hk (hG n h1).1 A c l.length hl8).mono ?_
      rintro e w' ⟨rfl, rfl⟩
      exact ⟨rfl, DevPost.refl h⟩
  · have e1 : D.write n i l = (50, D) := by
      unfold DevP.write
      rw [if_neg hh]
    rw [e1]
    refine (write_none h n hn i hh A c l.length).mono ?_
    rintro e w' ⟨rfl, rfl⟩
    exact ⟨rfl, DevPost.refl h⟩
end Go.Proofs.YtkganajbilnanaaGreat
namespace Go.Proofs.YtkganajbilnanaaGreat
open Go.ChangeShapes Go.WideShapes Go.ChangeAt Go.RowKit
section
variable {D : DevP} {w : World} {F : Nat → Prop} {p : Value}
theorem read_any (h : IsDev D w F p) {N : Nat} (hG : D.good N) (hN : N ≤ 100000) (n : Nat) (hn : n < 256) (i : Int) :
    Calls Tryz.prog 25 #[p, .int .u8 n, .int .i64 i] w (RetB2 (D.read n i).1 ((D.read n i).2 : Nat) w) := by
  obtain ⟨gp, s, lv, X, rfl, h⟩ := h
  by_cases hh : D.has n i
  · have hh' := hh
    obtain ⟨h1, h2, h3⟩ := hh
    obtain ⟨k, rfl⟩ := Int.eq_ofNat_of_zero_le h2
    have hk : k < (D.f n).length := by omega
    have e1 : D.read n (k : Nat) = ((D.f n)[k].newest, 0) := by
      unfold DevP.read
      rw [if_pos hh', Int.toNat_natCast, DevP.sect_eq hk]
    rw [e1]
    obtain ⟨q1, q2, q3⟩ := hG.at_ h1 hk
    exact read_some h n h1 k hk (hG n h1).1 (by omega) (by rw [newest_128 q1 q3]; omega)
  · have e1 : D.read n i = ([], 50) := by
      unfold DevP.read
      rw [if_neg hh]
    rw [e1]
    refine (read_none h n hn i hh).mono ?_
    rintro e w' ⟨rfl, rfl⟩
    exact ⟨none, 0, rfl, World.ownsRow_nil _ _ _ _, Below.refl _ _, fun x hx => by cases hx⟩
theorem waits_any (h : IsDev D w F p) {N : Nat} (hG : D.good N) (n : Nat) (hn : n < 256) (i : Int) :
    Calls Tryz.prog 93 #[p, .int .u8 n, .int .i64 i] w fun e w' => e = .returned (.int .i64 (D.waits n i : Nat)) ∧ w = w' := by
  obtain ⟨gp, s, lv, X, rfl, h⟩ := h
  by_cases hh : D.has n i
  · have hh' := hh
    obtain ⟨h1, h2, h3⟩ := hh
    obtain ⟨k, rfl⟩ := Int.eq_ofNat_of_zero_le h2
    have hk : k < (D.f n).length := by omega
    have e1 : D.waits n (k : Nat) = (D.f n)[k].waits.length := by
      unfold DevP.waits
      rw [if_pos hh', Int.toNat_natCast, DevP.sect_eq hk]
    rw [e1]
    exact waits_some h n h1 k hk (hG n h1).1
  · have e1 : D.waits n i = 0 := by
      unfold DevP.waits
      rw [if_neg hh]
    rw [e1]
    exact waits_none h n hn i hh
theorem sizes_any (h : IsDev D w F p) (n : Nat) (hn : n < 256) :
    Calls Tryz.prog 65 #[p, .int .u8 n] w fun e w' => e = .returned (.int .i64 (D.size n : Nat)) ∧ w = w' := by
  obtain ⟨gp, s, lv, X, rfl, h⟩ := h
  exact size_any h n hn
theorem haltedd_any (h : IsDev D w F p) :
    Calls Tryz.prog 98 #[p] w fun e w' => e = .returned (.bool D.halted) ∧ w = w' := by
  obtain ⟨gp, s, lv, X, rfl, h⟩ := h
  exact halted_any gp D.halted w (h.blk.cell 3)
theorem haltd_any (h : IsDev D w F p) (hF : ∀ b, F b → b < w.heap.size) (n : Int) (hn : n < 9223372036854775808) :
    Calls Tryz.prog 61 #[p, .int .i64 n] w fun e w' => e = .returned (.tuple #[]) ∧ DevPost (D.halt n) F p w w' := by
  obtain ⟨gp, s, lv, X, rfl, h⟩ := h
  have hlv : lv.oneCell' = true := by
    have := h.left
    cases hl : D.left with
    | none => rw [hl] at this; rw [show lv = .pointer none from this]; rfl
    | some q => rw [hl] at this; obtain ⟨gl, e, _⟩ := this; rw [e]; rfl
  have hgp := h.blk.lt
  refine (halt_any gp n lv w (h.blk.cell 2) (h.blk.frozen 2) hgp hlv).mono fun e w' ⟨e0, e1⟩ => ⟨e0, ?_⟩
  subst e1
  have ho : Only (fun b => b = gp) w ((w.setCell ⟨gp, 2, none⟩ (.pointer (some ⟨w.heap.size, 0, none⟩))).alloc (.cells #[.int .i64 (max n 0)] 3)) :=
    ((Only.refl (fun b => b = gp) w).setCell (p := ⟨gp, 2, none⟩) (.inl rfl) _).alloc _
  have hfar : Far w 71 (fun b => b = gp) := fun b q hb => by
    subst q
    exact ⟨_, h.blk.ty, by decide, by decide, by decide⟩
  have hsz : (w.setCell ⟨gp, 2, none⟩ (.pointer (some ⟨w.heap.size, 0, none⟩))).heap.size = w.heap.size := by simp [World.setCell]
  have hnew : Blk ((w.setCell ⟨gp, 2, none⟩ (.pointer (some ⟨w.heap.size, 0, none⟩))).alloc (.cells #[.int .i64 (max n 0)] 3)) w.heap.size 3 #[.int .i64 (max n 0)] := by
    have := Blk.new (w.setCell ⟨gp, 2, none⟩ (.pointer (some ⟨w.heap.size, 0, none⟩))) 3 #[.int .i64 (max n 0)]
    rw [hsz] at this
    exact this
  have hin : grow F w ((w.setCell ⟨gp, 2, none⟩ (.pointer (some ⟨w.heap.size, 0, none⟩))).alloc (.cells #[.int .i64 (max n 0)] 3)) w.heap.size := .inr ⟨Nat.le_refl _, hnew.lt⟩
  have hmx : (((max n 0).toNat : Nat) : Int) = max n 0 := by omega
  refine ⟨⟨gp, s, .pointer (some ⟨w.heap.size, 0, none⟩), X, rfl, ⟨(h.toFilesAt.far ho hfar).mono fun b q => .inl q, (h.blk.set_ 2 _).alloc _, .inl h.inF, ⟨w.heap.size, rfl, hin, ?_, ?_⟩⟩⟩, ho.mono fun b q => .inl (by subst q; exact h.inF)⟩
  · rw [hmx]
    exact hnew
  · omega
end
def stepF (f : Nat → List Sect) (n : Nat) (g : Nat → Sect → Sect) (k : Nat) (m : Nat) : List Sect := if m = n then (f m).mapIdx (fun i s => if i < k then g i s else s) else f m
theorem stepF_zero (f : Nat → List Sect) (n : Nat) (g : Nat → Sect → Sect) : stepF f n g 0 = f := by
  funext m
  unfold stepF
  split
  · apply List.ext_getElem
    · simp
    · intro i h1 h2
      simp
  · rfl
theorem stepF_length (f : Nat → List Sect) (n : Nat) (g : Nat → Sect → Sect) (k m : Nat) : (stepF f n g k m).length = (f m).length := by
  unfold stepF
  split
  · simp
  · rfl
theorem stepF_all (f : Nat → List Sect) (n : Nat) (g : Nat → Sect → Sect) {k : Nat} (hk : k = (f n).length) : stepF f n g k = fun m => if m = n then (f m).mapIdx g else f m := by
  funext m
  unfold stepF
  split
  · rename_i e
    subst e
    apply List.ext_getElem
    · simp
    · intro i h1 h2
      simp only [List.getElem_mapIdx]
      rw [if_pos (by simp at h1; omega)]
  · rfl
theorem stepF_at (f : Nat → List Sect) (n : Nat) (g : Nat → Sect → Sect) {k : Nat} (hk : k < (f n).length) (h : k < (stepF f n g k n).length) : (stepF f n g k n)[k] = (f n)[k] := by
  simp only [stepF, if_true, List.getElem_mapIdx, Nat.lt_irrefl, if_false]
theorem stepF_next (f : Nat → List Sect) (n : Nat) (g : Nat → Sect → Sect) {k : Nat} (hk : k < (f n).length) : putD (stepF f n g k) n k (g k (f n)[k]) = stepF f n g (k + 1) := by
  funext m
  unfold putD
  split
  · rename_i e
    subst e
    apply List.ext_getElem
    · simp [stepF]
    · intro i h1 h2
      have hi : i < (f m).length := by rw [stepF_length] at h2; exact h2
      rw [List.getElem_set]
      simp only [stepF, if_true, List.getElem_mapIdx]
      by_cases e : k = i
      · subst e
        rw [if_pos rfl]
        exact (if_pos (Nat.lt_succ_self _)).symm
      · rw [if_neg e]
        by_cases e2 : i < k
        · rw [if_pos e2]
          exact (if_pos (by omega)).symm
        · rw [if_neg e2]
          exact (if_neg (by omega)).symm
  · rename_i e
    simp only [stepF, if_neg e]
section
variable {ts : TypeId} {f : Nat → List Sect} {w : World} {F F' : Nat → Prop} {s : Nat → Value} {X : Nat → List Value}
theorem FilesAt.set2 (h : FilesAt ts f w F s X) (hts : ts ≠ 45) (hts2 : ts ≠ 5) {n k g c : Nat} (hn : n < 2) (hk : k < (f n).length) (es : s n = .slice (some ⟨g, 0, none⟩) (f n).length c) {u : Value} {l : List Nat} (hu : Txt w F' u l) (hFF : ∀ b, F b → F' b) :
    FilesAt ts (putD f n k ⟨l, []⟩) ((w.setCell ⟨g, 2 * k, none⟩ u).setCell ⟨g, 2 * k + 1, none⟩ (.slice none 0 0)) F' s (updX X n (((X n).set (2 * k) u).set (2 * k + 1) (.slice none 0 0))) := by
  have hb := (h.but n k).mono hFF
  have hr := (hb.row n hn).1
  rw [es] at hr
  have h1 := (hr.stored (2 * k) u).1
  have h2 := (h1.stored (2 * k + 1) (.slice none 0 0)).1
  rw [← es] at h2
  have hXl : (X n).length = 2 * (f n).length := by have := hr.1; omega
  refine hb.put hn hts hts2 h2 (lv := u) (wv := .slice none 0 0) ?_ ?_ ?_ ?_ hu (IsWaits.nil w F') ?_
  · rw [List.getElem?_set_ne (by omega), List.getElem?_set_self (by omega)]
  · rw [List.getElem?_set_self (by rw [List.length_set]; omega)]
  · exact fun j h1 h2 => by rw [List.getElem?_set_ne (by omega), List.getElem?_set_ne (by omega)]
  · rw [es]
    exact ((Only.refl (fun b => (Value.slice (some ⟨g, 0, none⟩) (f n).length c).ownBlock = some b) w).setCell (p := ⟨g, 2 * k, none⟩) (.inl rfl) _).setCell (p := ⟨g, 2 * k + 1, none⟩) (.inl rfl) _
  · exact fun m i v _ _ _ => .inr (.inl rfl)
end
section
variable {D : DevP} {w : World} {F F' : Nat → Prop} {gp : Nat} {s : Nat → Value} {lv : Value} {X : Nat → List Value}
theorem DevAt.set2 (h : DevAt D w F gp s lv X) {n k g c : Nat} (hn : n < 2) (hk : k < (D.f n).length) (es : s n = .slice (some ⟨g, 0, none⟩) (D.f n).length c) {u : Value} {l : List Nat} (hu : Txt w F' u l) (hFF : ∀ b, F b → F' b) :
    DevAt (D.put n k ⟨l, []⟩) ((w.setCell ⟨g, 2 * k, none⟩ u).setCell ⟨g, 2 * k + 1, none⟩ (.slice none 0 0)) F' gp s lv (updX X n (((X n).set (2 * k) u).set (2 * k + 1) (.slice none 0 0))) := by
  have hr := (h.file n hn).1
  rw [es] at hr
  have hg : Ty w g 71 := own_ty hr rfl
  have hgp : gp ≠ g := fun q => by subst q; exact absurd (h.blk.ty.uniq hg) (by decide)
  refine ⟨h.toFilesAt.set2 (by decide) (by decide) hn hk es hu hFF, (h.blk.far hgp _).far hgp _, hFF _ h.inF, IsLeft.mono ?_ hFF⟩
  show IsLeft _ F lv D.left
  cases hl : D.left with
  | none => have := h.left; rw [hl] at this; exact this
  | some q =>
    have := h.left
    rw [hl] at this
    obtain ⟨gl, q1, q2, q3, q4⟩ := this
    have hgl : gl ≠ g := fun q => by subst q; exact absurd (q3.ty.uniq hg) (by decide)
    exact ⟨gl, q1, q2, (q3.far hgl _).far hgl _, q4⟩
theorem DevAt.set2_only (h : DevAt D w F gp s lv X) {n k g c : Nat} (hn : n < 2) (es : s n = .slice (some ⟨g, 0, none⟩) (D.f n).length c) (u : Value) :
    Only (Hard F w) w ((w.setCell ⟨g, 2 * k, none⟩ u).setCell ⟨g, 2 * k + 1, none⟩ (.slice none 0 0)) := by
  obtain ⟨hr, hF, _⟩ := h.file n hn
  rw [es] at hr hF
  have hg : Hard F w g := ⟨hF g rfl, fun q => absurd ((own_ty hr rfl).uniq q) (by decide)⟩
  exact ((Only.refl (Hard F w) w).setCell (p := ⟨g, 2 * k, none⟩) (.inl hg) _).setCell (p := ⟨g, 2 * k + 1, none⟩) (.inl hg) _
end
end Go.Proofs.YtkganajbilnanaaGreat
namespace Go.Proofs.YtkganajbilnanaaGreat
open Go.ChangeShapes Go.WideShapes Go.ChangeAt Go.RowKit
set_option maxRecDepth 20000
def syncS (_ : Nat) (s : Sect) : Sect := ⟨s.newest, []⟩
section
variable {D : DevP} {w : World} {F : Nat → Prop} {gp : Nat} {s : Nat → Value} {lv : Value} {X : Nat → List Value}
set_option maxHeartbeats 400000 in
theorem sync_some (h : DevAt D w F gp s lv X) (hF : ∀ b, F b → b < w.heap.size) {N : Nat} (hG : D.good N) (hN : N ≤ 100000) {n : Nat} (hn : n < 2) :
    Calls Tryz.prog 80 #[.pointer (some ⟨gp, 0, none⟩), .int .u8 n] w fun e w' => e = .returned (.tuple #[]) ∧ DevPost (D.sync n) F (.pointer (some ⟨gp, 0, none⟩)) w w' := by
  have hf := file_any h n (by omega)
  rw [if_pos hn] at hf
  have hgo := goes_any h
  have hlt : decide ((2 : Int) ≤ (n : Int)) = false := by rw [decide_eq_false_iff_not]; omega
  obtain ⟨A, c, es, -, -⟩ := own_form (h.file n hn).1
  rw [es] at hf
  have hD : D.sync n = if D.goes.1 then { D.goes.2 with f := mapF D n syncS } else D.goes.2 := if_pos hn
  rw [hD]
  cases hg : D.goes.1 with
  | false =>
    rw [hg] at hgo
    go_enter Tryz.func80, Tryz.ntmps80
    go_wp2_with fail
    refine hf.mono ?_
    rintro e w1 ⟨rfl, rfl⟩
    go_wp2_with fail
    refine hgo.mono ?_
    rintro e w1 ⟨rfl, h1, h2⟩
    have hfin : DevPost D.goes.2 F (.pointer (some ⟨gp, 0, none⟩)) w w1 := ⟨⟨gp, s, lv, X, rfl, ⟨h1.toFilesAt.mono fun b q => .inl q, h1.blk, .inl h1.inF, h1.left.mono fun b q => .inl q⟩⟩, h2.mono fun b q => .inl q.1⟩
    clear h1 h2
    go_wp2
    refine bodyPost_ret (results_none rfl _ _ _) rfl ?_
    exact ⟨rfl, hfin⟩
  | true =>
    rw [hg] at hgo
    have hgf := D.goes_f
    generalize hD' : D.goes.2 = D' at *
    go_enter Tryz.func80, Tryz.ntmps80
    go_wp2_with fail
    refine hf.mono ?_
    rintro e w1 ⟨rfl, rfl⟩
    go_wp2_with fail
    refine hgo.mono ?_
    rintro e w1 ⟨rfl, h1, h2⟩
    obtain ⟨f0, left0, hal0⟩ := D'
    simp only at hgf
    subst hgf
    clear hD' hgo hf h
    obtain ⟨m, hm⟩ : ∃ m, (D.f n).length = m := ⟨_, rfl⟩
    have hm2 := (hG n hn).1
    rw [hm] at es hm2
    rw [hm]
    have HM := Lib.hid hm
    clear hm
    go_wp2_with fail
    go_loopw [19, 5] (fun i j wr => ∃ k : Nat, k ≤ m ∧ i = .int .i64 k ∧ (∃ Xk, DevAt ⟨stepF D.f n syncS k, left0, hal0⟩ wr F gp s lv Xk) ∧ Only (Hard F w) w wr) (fun i _ _ => m - (intOf i).toNat)
    case atStart => exact ⟨0, Nat.zero_le _, rfl, ⟨X, by rw [stepF_zero]; exact h1⟩, h2⟩
    case round =>
      obtain ⟨k, hk, rfl, ⟨Xk, hd⟩, hO⟩ := hrel
      rcases Nat.lt_or_ge k m with hlt | hge
      · have e1 : decide ((k : Int) < (m : Int)) = true := by rw [decide_eq_true_iff]; omega
        have e2 : (0 : Int) ≤ (k : Int) := by omega
        have e3 : (k : Int) < (m : Int) := by omega
        have hkl : k < (stepF D.f n syncS k n).length := by rw [stepF_length, HM.out]; exact hlt
        have hkl0 : k < (D.f n).length := by rw [HM.out]; exact hlt
        have hAt := stepF_at D.f n syncS hkl0 hkl
        have hw : (stepF D.f n syncS k n)[k].waits.length ≤ 100000 := by rw [hAt]; have := (hG.at_ hn hkl0).2.1; omega
        obtain ⟨g, c', lw, wv, es', qc0, qc1, -⟩ := sector_at hd hn hkl
        have hnw := newest_any hd hn hkl hw es'
        rw [show (DevP.f ⟨stepF D.f n syncS k, left0, hal0⟩ n)[k]'hkl = (D.f n)[k] from hAt] at hnw
        rw [Nat.mul_comm 2 k] at hnw
        have es2 := es'
        rw [es] at es'
        injection es' with q1 q2 q3
        subst q1
        subst q3
        clear q2
        have hrow := (hd.file n hn).1
        rw [es2] at hrow
        have qf0 : wr.frozen? ⟨g, k * 2, none⟩ = false := hrow.frozenAt _
        have qf1 : wr.frozen? ⟨g, k * 2 + 1, none⟩ = false := hrow.frozenAt _
        have post := fun (u : Value) (hu : Txt wr F u (D.f n)[k].newest) => DevAt.set2 hd hn hkl es2 hu (fun b q => q)
        have posto := fun (u : Value) => hd.set2_only (n := n) (k := k) hn es2 u
        simp only [Nat.mul_comm 2 k] at qc0 qc1 post posto
        have hnx := stepF_next D.f n syncS hkl0
        have POST := Lib.hid post
        have POSTO := Lib.hid posto
        have HNX := Lib.hid hnx
        clear post posto hnx hd es2 hrow hAt
        go_wp2_with fail
        refine hnw.mono ?_
        rintro e w2 ⟨⟨u, rfl, ht⟩, rfl⟩
        obtain ⟨A2, c2, rfl, -⟩ := ht.bytes
        go_wp2_with fail
        go_roundw
        case rel => exact ⟨k + 1, by omega, by go_num, ⟨_, by rw [← HNX.out]; exact POST.out _ ht⟩, hO.trans (POSTO.out _) fun b q => hard_back hF hO q⟩
        case measure => simp [intOf]; omega
      · obtain rfl : k = m := by omega
        have hfin : DevPost { (⟨D.f, left0, hal0⟩ : DevP) with f := mapF D n syncS } F (.pointer (some ⟨gp, 0, none⟩)) w wr := by
          rw [stepF_all D.f n syncS HM.out.symm] at hd
          exact ⟨⟨gp, s, lv, Xk, rfl, ⟨hd.toFilesAt.mono fun b q => .inl q, hd.blk, .inl hd.inF, hd.left.mono fun b q => .inl q⟩⟩, hO.mono fun b q => .inl q.1⟩
        have HFIN := Lib.hid hfin
        clear hfin hd hO h1 h2
        go_wp2
        go_end0
        exact ⟨rfl, HFIN.out⟩
theorem sync_none (h : DevAt D w F gp s lv X) (n : Nat) (hn : n < 256) (hn2 : 2 ≤ n) :
    Calls Tryz.prog 80 #[.pointer (some ⟨gp, 0, none⟩), .int .u8 n] w fun e w' => e = .returned (.tuple #[]) ∧ w = w' := by
  have hf := file_any h n hn
  rw [if_neg (by omega)] at hf
  have hlt : decide ((2 : Int) ≤ (n : Int)) = true := by rw [decide_eq_true_iff]; omega
  clear h
  go_enter Tryz.func80, Tryz.ntmps80
  go_wp2_with fail
  refine hf.mono ?_
  rintro e w1 ⟨rfl, rfl⟩
  go_wp2
  refine bodyPost_ret (results_none rfl _ _ _) rfl ?_
  exact ⟨rfl, rfl⟩
end
theorem sync_any {D : DevP} {w : World} {F : Nat → Prop} {p : Value} (h : IsDev D w F p) (hF : ∀ b, F b → b < w.heap.size) {N : Nat} (hG : D.good N) (hN : N ≤ 100000) (n : Nat) (hn : n < 256) :
    Calls Tryz.prog 80 #[p, .int .u8 n] w fun e w' => e = .returned (.tuple #[]) ∧ DevPost (D.sync n) F p w w' := by
  have hp := h
  obtain ⟨gp, s, lv, X, rfl, h'⟩ := hp
  by_cases hh : n < 2
  · exact sync_some h' hF hG hN hh
  · have e1 : D.sync n = D := if_neg hh
    rw [e1]
    refine (sync_none h' n hn (by omega)).mono ?_
    rintro e w' ⟨rfl, rfl⟩
    exact ⟨rfl, DevPost.refl h⟩
end Go.Proofs.YtkganajbilnanaaGreat
namespace Go.Proofs.YtkganajbilnanaaGreat
open Go.RowKit
theorem run_copy_at {P : Program} {w : World} (dT sT ty elem : TypeId) (hu : P.underlying dT = some (.slice elem)) (hsz : (P.info? elem).map (·.size) = some 1)
    (base g o dl dc m cap : Nat) (xs : List Value) (hown : w.ownsRow base elem 1 (.slice (some ⟨g, 0, none⟩) m cap) m xs) (hod : o + dl ≤ m)
    (B : Nat) (A : Option Addr) (sl sc : Nat) (news : List Value) (hl : news.length = sl) (hat : At w B A news) (h1 : ∀ v ∈ news, v.oneCell' = true) :
    ∃ w', (Builtin.copy_ #[dT, sT] ty #[.slice (some ⟨g, o, none⟩) dl dc, .slice A sl sc]).run P w = .ok (goInt ((min sl dl : Nat) : Int)) w' ∧ w'.ownsRow base elem 1 (.slice (some ⟨g, 0, none⟩) m cap) m (xs.take o ++ news.take (min sl dl) ++ xs.drop (o + min sl dl)) ∧ w.grownBy w' (some g) := by
  subst hl
  have hxs : xs.length = m := by have := hown.1; omega
  rcases Nat.eq_zero_or_pos (min news.length dl) with h0 | h0
  · refine ⟨w, ?_, ?_, World.grownBy.refl w _⟩
    · rw [h0]
      exact run_copy_none (P := P) w dT sT ty elem _ A dl dc news.length sc hu hsz h0
    · rw [h0]
      simpa using hown
  · obtain ⟨b, of, rfl, _, _⟩ := hat 0 (by omega)
    rcases hown.2 with ⟨h', _⟩ | ⟨g', cap', cur, h', hb, hg, hnc, hcm, hcs, htake⟩
    · simp at h'
    · simp only [Value.slice.injEq, Option.some.injEq, Addr.mk.injEq, and_true, true_and] at h'
      obtain ⟨rfl, rfl⟩ := h'
      rw [Nat.mul_one] at hcs htake
      have hsrc : ∀ j v, (news.take (min news.length dl))[j]? = some v → w.cell? ((⟨b, of, none⟩ : Addr).add j) = some v := fun j v hj => by
        rw [List.getElem?_take] at hj
        split at hj
        · obtain ⟨hj1, hj2⟩ := List.getElem?_eq_some_iff.1 hj
          obtain ⟨b', o', e', _, hc⟩ := hat j hj1
          injection e' with e'
          injection e' with e1 e2
          subst e1
          subst e2
          have : (⟨b, of, none⟩ : Addr).add j = ⟨b, of + j, none⟩ := by
            unfold Addr.add
            split
            · subst_vars; rfl
            · rfl
          rw [this, hc, hj2]
        · cases hj
      have hln : (news.take (min news.length dl)).length = min news.length dl := by rw [List.length_take]; omega
      have hrun := run_copy_row (P := P) w dT sT ty elem g o dl dc ⟨b, of, none⟩ news.length sc cur elem (news.take (min news.length dl)) hu hsz hg hln hsrc (by rw [hln]; omega) (fun v hv => h1 v (List.mem_of_mem_take hv))
      rw [hln] at hrun
      refine ⟨_, hrun, ?_, ?_⟩
      · have hX : (cur.toList.take o ++ news.take (min news.length dl) ++ cur.toList.drop (o + min news.length dl)).length = cap := by simp; omega
        refine ⟨by simp; omega, .inr ⟨g, cap, (cur.toList.take o ++ news.take (min news.length dl) ++ cur.toList.drop (o + min news.length dl)).toArray, rfl, hb, setRow_heap _ _ _ _ _ _ hg, hnc, hcm, by rw [Nat.mul_one, List.size_toArray]; exact hX, ?_⟩⟩
        rw [Nat.mul_one, ← htake]
        simp only [List.toList_toArray]
        have hcl : cur.toList.length = cap := by rw [Array.length_toList]; exact hcs
        have e1 : (cur.toList.take o ++ news.take (min news.length dl)).length = o + min news.length dl := by rw [List.length_append, List.length_take, hln]; omega
        rw [List.take_append, List.take_of_length_le (l := cur.toList.take o ++ _) (by rw [e1]; omega), e1, List.take_take, Nat.min_eq_left (show o ≤ m by omega), List.drop_take]
      · exact ⟨rfl, rfl, rfl, by simp [World.setRow], fun k hk hne => setRow_other w g k _ (by intro e; exact hne (by rw [e]))⟩
theorem wp_copy_at {P : Program} {w : World} {o : Oper} {a : Act} {K : Act → World → Prop} {Q : Exit → Act → World → Prop} (d s : Operand) (dT sT : TypeId)
    (ho : o.op = .call { callee := .builtin .copy, args := #[d, s], argTypes := #[dT, sT] }) (elem : TypeId) (hu : P.underlying dT = some (.slice elem)) (hsz : (P.info? elem).map (·.size) = some 1)
    (base g of dl dc m cap : Nat) (xs : List Value) (hd : a.eval d = .slice (some ⟨g, of, none⟩) dl dc) (hown : w.ownsRow base elem 1 (.slice (some ⟨g, 0, none⟩) m cap) m xs) (hod : of + dl ≤ m)
    (B : Nat) (A : Option Addr) (sl sc : Nat) (news : List Value) (hs : a.eval s = .slice A sl sc) (hl : news.length = sl) (hat : At w B A news) (h1 : ∀ v ∈ news, v.oneCell' = true)
    (h : ∀ w', w'.ownsRow base elem 1 (.slice (some ⟨g, 0, none⟩) m cap) m (xs.take of ++ news.take (min sl dl) ++ xs.drop (of + min sl dl)) → w.grownBy w' (some g) → K (a.put o.dst (goInt ((min sl dl : Nat) : Int))) w') : o.wp P a w K Q := by
  obtain ⟨w', hrun, h2, h3⟩ := run_copy_at (P := P) (w := w) dT sT o.type elem hu hsz base g of dl dc m cap xs hown hod B A sl sc news hl hat h1
  unfold Oper.wp execOp
  simp only [ho, resolve, invoke, builtin, Sem.run_bind, Sem.run_pure, Result.andThen_ok, List.map_toArray, List.map_cons, List.map_nil, hd, hs, hrun]
  exact h w' h2 h3
theorem step_copy_at {P : Program} {w : World} {ops : Array Oper} {o : Oper} {a : Act} {K : Act → World → Prop} {Q : Exit → Act → World → Prop} {E : Prop} (hgd : o.guard = none) (d s : Operand) (dT sT : TypeId)
    (ho : o.op = .call { callee := .builtin .copy, args := #[d, s], argTypes := #[dT, sT] }) (elem : TypeId) (hu : P.underlying dT = some (.slice elem)) (hsz : (P.info? elem).map (·.size) = some 1)
    (base g of dl dc m cap : Nat) (xs : List Value) (hd : a.eval d = .slice (some ⟨g, of, none⟩) dl dc) (hown : w.ownsRow base elem 1 (.slice (some ⟨g, 0, none⟩) m cap) m xs) (hod : of + dl ≤ m)
    (B : Nat) (A : Option Addr) (sl sc : Nat) (news : List Value) (hs : a.eval s = .slice A sl sc) (hl : news.length = sl) (hat : At w B A news) (h1 : ∀ v ∈ news, v.oneCell' = true)
    (h : ∀ w', w'.ownsRow base elem 1 (.slice (some ⟨g, 0, none⟩) m cap) m (xs.take of ++ news.take (min sl dl) ++ xs.drop (of + min sl dl)) → w.grownBy w' (some g) → K (a.put o.dst (goInt ((min sl dl : Nat) : Int))) w') :
    if Region.wanted o (yielded ops a.tmps) = true then Oper.wp P o a w K Q else E := by
  have hw : Region.wanted o (yielded ops a.tmps) = true := by simp [Region.wanted, hgd]
  rw [if_pos hw]
  exact wp_copy_at d s dT sT ho elem hu hsz base g of dl dc m cap xs hd hown hod B A sl sc news hs hl hat h1 h
theorem wpList_copy_at {P : Program} {w : World} {ops : Array Oper} {rest : List Oper} {o : Oper} {a : Act} {Q : Exit → Act → World → Prop} (hgd : o.guard = none) (d s : Operand) (dT sT : TypeId)
    (ho : o.op = .call { callee := .builtin .copy, args := #[d, s], argTypes := #[dT, sT] }) (elem : TypeId) (hu : P.underlying dT = some (.slice elem)) (hsz : (P.info? elem).map (·.size) = some 1)
    (base g of dl dc m cap : Nat) (xs : List Value) (hd : a.eval d = .slice (some ⟨g, of, none⟩) dl dc) (hown : w.ownsRow base elem 1 (.slice (some ⟨g, 0, none⟩) m cap) m xs) (hod : of + dl ≤ m)
    (B : Nat) (A : Option Addr) (sl sc : Nat) (news : List Value) (hs : a.eval s = .slice A sl sc) (hl : news.length = sl) (hat : At w B A news) (h1 : ∀ v ∈ news, v.oneCell' = true)
    (h : ∀ w', w'.ownsRow base elem 1 (.slice (some ⟨g, 0, none⟩) m cap) m (xs.take of ++ news.take (min sl dl) ++ xs.drop (of + min sl dl)) → w.grownBy w' (some g) → wpList P ops Q rest (a.put o.dst (goInt ((min sl dl : Nat) : Int))) w') :
    wpList P ops Q (o :: rest) a w :=
  wpList_plain hgd fun _ hK => wp_copy_at d s dT sT ho elem hu hsz base g of dl dc m cap xs hd hown hod B A sl sc news hs hl hat h1 fun w' h2 h3 => hK _ _ (h w' h2 h3)
end Go.Proofs.YtkganajbilnanaaGreat
