/- The log as it lies in memory, beside its device. Conditions: none. -/
import Derived.Test.YtkganajbilnanaaWWalA
import Derived.Test.YtkganajbilnanaaWDiskD
namespace Go.Proofs.Ytkganajbilnanaa
open Go.ChangeShapes Go.WideShapes Go.ChangeAt Go.RowKit
open NumMath
set_option linter.unusedVariables false
set_option linter.unusedSimpArgs false

/-- bytes that append may go on from: a row of the log's own, or a slice without room -/
def Strm (w : World) (G : Nat → Prop) (v : Value) (l : List Nat) : Prop :=
  Txt w G v l ∧ ((w.ownsRow 0 5 1 v l.length (l.map byteV) ∧ ∀ b, v.ownBlock = some b → G b) ∨ ∃ A, v = .slice A l.length l.length)
theorem Strm.only {w w' : World} {G S : Nat → Prop} {v : Value} {l : List Nat} (h : Strm w G v l) (ho : Only S w w') (hs : ∀ b, G b → U8 w b → ¬ S b) : Strm w' G v l := by
  obtain ⟨h1, h2⟩ := h
  refine ⟨h1.only ho hs, ?_⟩
  rcases h2 with ⟨q1, q2⟩ | q
  · refine .inl ⟨ho.own q1 fun k e => hs k (q2 k e) ?_, q2⟩
    obtain ⟨cs, f, z⟩ := own_ty q1 e
    exact ⟨cs, f, z⟩
  · exact .inr q
theorem Strm.mono {w : World} {G G' : Nat → Prop} {v : Value} {l : List Nat} (h : Strm w G v l) (hs : ∀ b, G b → G' b) : Strm w G' v l :=
  ⟨h.1.mono fun b q _ => hs b q, h.2.imp (fun q => ⟨q.1, fun b e => hs b (q.2 b e)⟩) id⟩
theorem Strm.nil (w : World) (G : Nat → Prop) : Strm w G (.slice none 0 0) [] := ⟨Txt.nil _ _, .inl ⟨World.ownsRow_nil _ _ _ _, fun b e => by cases e⟩⟩
theorem Strm.own {w : World} {G : Nat → Prop} {A : Option Addr} {n c base : Nat} {l : List Nat} (h : w.ownsRow base 5 1 (.slice A n c) n (l.map byteV)) (hn : l.length = n) (hl : Small l) (hG : ∀ b, (Value.slice A n c).ownBlock = some b → G b) : Strm w G (.slice A n c) l := by
  refine ⟨Txt.own h hn hl hG, .inl ⟨?_, hG⟩⟩
  subst hn
  exact own_base (Nat.zero_le _) h
/-- a log as it lies: its ten cells, its stream, its places -/
structure LogAt (L : LogP) (w : World) (G : Nat → Prop) (gl : Nat) (dp sv st : Value) : Prop where
  blk : Blk w gl 75 (logV L.h dp L.strips L.slot sv st L.lasts)
  inG : G gl
  strm : Strm w G sv L.stream
  strt : w.ownsRow 0 3 1 st L.starts.length (placeV L.starts)
  strtG : ∀ b, st.ownBlock = some b → G b
section
variable {L L' : LogP} {w w' : World} {G G' S : Nat → Prop} {gl : Nat} {dp sv st : Value}
theorem LogAt.only (h : LogAt L w G gl dp sv st) (ho : Only S w w') (hs : ∀ b, G b → ¬ S b) : LogAt L w' G gl dp sv st :=
  ⟨h.blk.only ho (hs gl h.inG), h.inG, h.strm.only ho fun b q _ => hs b q, ho.own h.strt fun k e => hs k (h.strtG k e), h.strtG⟩
theorem LogAt.mono (h : LogAt L w G gl dp sv st) (hs : ∀ b, G b → G' b) : LogAt L w G' gl dp sv st :=
  ⟨h.blk, hs _ h.inG, h.strm.mono hs, h.strt, fun b e => hs b (h.strtG b e)⟩
theorem LogAt.below (h : LogAt L w G gl dp sv st) (hb : Below w.heap.size w w') : LogAt L w' G gl dp sv st := h.only (Only.of_below hb (fun _ => False)) fun _ _ q => q
/-- its box alone was written -/
theorem LogAt.box (h : LogAt L w G gl dp sv st) (ho : Only (fun b => b = gl) w w') (hb : Blk w' gl 75 (logV L'.h dp L'.strips L'.slot sv st L'.lasts)) (h1 : L'.stream = L.stream) (h2 : L'.starts = L.starts) : LogAt L' w' G gl dp sv st := by
  have hgl : Ty w gl 75 := h.blk.ty
  refine ⟨hb, h.inG, ?_, ?_, h.strtG⟩
  · rw [h1]
    exact h.strm.only ho fun b _ hu e => by subst e; exact absurd (hu.uniq' hgl) (by decide)
  · rw [h2]
    exact ho.own h.strt fun k e q => by subst q; exact absurd ((own_ty h.strt e).uniq hgl) (by decide)
theorem LogAt.places (h : LogAt L w G gl dp sv st) : ∃ A c, st = .slice A L.starts.length c ∧ L.starts.length ≤ c ∧ At w w.heap.size A (placeV L.starts) := by
  obtain ⟨A, c, e, hc, _⟩ := own_form h.strt
  refine ⟨A, c, e, hc, ?_⟩
  have := h.strt
  rw [e] at this
  exact At.own this
theorem LogAt.bytes (h : LogAt L w G gl dp sv st) : ∃ A c, sv = .slice A L.stream.length c ∧ L.stream.length ≤ c ∧ Bytes w w.heap.size A L.stream := h.strm.1.bytes
end
/-- a log and its device, in blocks G and F -/
structure Lg (L : LogP) (D : DevP) (w : World) (F G : Nat → Prop) (gl : Nat) (pd sv st : Value) : Prop where
  dev : IsDev D w F pd
  log : LogAt L w G gl pd sv st
  dis : ∀ b, F b → ¬ G b
  hiF : ∀ b, F b → b < w.heap.size
  hiG : ∀ b, G b → b < w.heap.size
/-- what a call on a log leaves -/
def LgPost (L' : LogP) (D' : DevP) (F G : Nat → Prop) (gl : Nat) (pd : Value) (w w' : World) : Prop :=
  ∃ F' G' sv st, Lg L' D' w' F' G' gl pd sv st ∧ (∀ b, F' b → grow F w w' b) ∧ (∀ b, G' b → grow G w w' b) ∧ Only (fun b => F b ∨ G b) w w'
section
variable {L L' L1 : LogP} {D D' D1 : DevP} {w w' w1 : World} {F G F1 G1 : Nat → Prop} {gl : Nat} {pd sv st : Value}
theorem Lg.below (h : Lg L D w F G gl pd sv st) (hb : Below w.heap.size w w') : Lg L D w' F G gl pd sv st :=
  ⟨h.dev.below hb, h.log.below hb, h.dis, fun b q => Nat.lt_of_lt_of_le (h.hiF b q) hb.size, fun b q => Nat.lt_of_lt_of_le (h.hiG b q) hb.size⟩
theorem Lg.drew (h : Lg L D w F G gl pd sv st) : Lg L D w.drew F G gl pd sv st := h.below (below_drew0 w)
theorem Lg.devPost (h : Lg L D w F G gl pd sv st) (hp : DevPost D' F pd w w') : Lg L D' w' (grow F w w') G gl pd sv st :=
  ⟨hp.1, h.log.only hp.2 fun b q q' => h.dis b q' q, fun b q q' => q.elim (fun z => h.dis b z q') fun z => by have := h.hiG b q'; omega,
    fun b q => q.elim (fun z => Nat.lt_of_lt_of_le (h.hiF b z) hp.2.size) fun z => z.2, fun b q => Nat.lt_of_lt_of_le (h.hiG b q) hp.2.size⟩
theorem Lg.box (h : Lg L D w F G gl pd sv st) (ho : Only (fun b => b = gl) w w') (hb : Blk w' gl 75 (logV L'.h pd L'.strips L'.slot sv st L'.lasts)) (h1 : L'.stream = L.stream) (h2 : L'.starts = L.starts) : Lg L' D w' F G gl pd sv st :=
  ⟨h.dev.only ho fun b q e => by subst e; exact h.dis b q h.log.inG, h.log.box ho hb h1 h2, h.dis, fun b q => Nat.lt_of_lt_of_le (h.hiF b q) ho.size, fun b q => Nat.lt_of_lt_of_le (h.hiG b q) ho.size⟩
theorem LgPost.refl (h : Lg L D w F G gl pd sv st) : LgPost L D F G gl pd w w := ⟨F, G, sv, st, h, fun b q => .inl q, fun b q => .inl q, Only.refl _ _⟩
theorem LgPost.below (h : Lg L D w F G gl pd sv st) (hb : Below w.heap.size w w') : LgPost L D F G gl pd w w' := ⟨F, G, sv, st, h.below hb, fun b q => .inl q, fun b q => .inl q, Only.of_below hb _⟩
theorem LgPost.dev (h : Lg L D w F G gl pd sv st) (hp : DevPost D' F pd w w') : LgPost L D' F G gl pd w w' := ⟨_, G, sv, st, h.devPost hp, fun b q => q, fun b q => .inl q, hp.2.mono fun b q => .inl (.inl q)⟩
theorem LgPost.box (h : Lg L D w F G gl pd sv st) (ho : Only (fun b => b = gl) w w') (hb : Blk w' gl 75 (logV L'.h pd L'.strips L'.slot sv st L'.lasts)) (h1 : L'.stream = L.stream) (h2 : L'.starts = L.starts) : LgPost L' D F G gl pd w w' :=
  ⟨F, G, sv, st, h.box ho hb h1 h2, fun b q => .inl q, fun b q => .inl q, ho.mono fun b e => .inl (.inr (by rw [e]; exact h.log.inG))⟩
/-- .. and one call more -/
theorem LgPost.trans {F' G' : Nat → Prop} (hF : ∀ b, F' b → grow F w w1 b) (hG : ∀ b, G' b → grow G w w1 b) (ho : Only (fun b => F b ∨ G b) w w1) (h2 : LgPost L' D' F' G' gl pd w1 w') : LgPost L' D' F G gl pd w w' := by
  obtain ⟨F2, G2, sv, st, q1, q2, q3, q4⟩ := h2
  have hs := ho.size
  have key : ∀ {A B C : Nat → Prop} {b : Nat}, (∀ b, A b → grow B w w1 b) → (∀ b, C b → grow A w1 w' b) → C b → grow B w w' b := fun {A B C b} h1 h2 q => by
    rcases h2 b q with z | z
    · rcases h1 b z with y | y
      · exact .inl y
      · exact .inr ⟨y.1, Nat.lt_of_lt_of_le y.2 q4.size⟩
    · exact .inr ⟨Nat.le_trans hs z.1, z.2⟩
  refine ⟨F2, G2, sv, st, q1, fun b q => key hF q2 q, fun b q => key hG q3 q, ho.trans q4 fun b q => ?_⟩
  rcases q with q | q
  · rcases hF b q with z | z
    · exact .inl (.inl z)
    · exact .inr z.1
  · rcases hG b q with z | z
    · exact .inl (.inr z)
    · exact .inr z.1
theorem LgPost.lead (hb : Below w.heap.size w w1) (h2 : LgPost L' D' F G gl pd w1 w') : LgPost L' D' F G gl pd w w' :=
  LgPost.trans (fun b q => .inl q) (fun b q => .inl q) (Only.of_below hb _) h2
end
/-- the log and its device somewhere in the blocks H -/
def IsLog (L : LogP) (D : DevP) (w : World) (H : Nat → Prop) (pl pd : Value) : Prop :=
  ∃ F G gl sv st, pl = .pointer (some ⟨gl, 0, none⟩) ∧ Lg L D w F G gl pd sv st ∧ ∀ b, F b ∨ G b → H b
def LogPost (L' : LogP) (D' : DevP) (H : Nat → Prop) (pl pd : Value) (w w' : World) : Prop := IsLog L' D' w' (grow H w w') pl pd ∧ Only H w w'
theorem LgPost.is {L' : LogP} {D' : DevP} {F G H : Nat → Prop} {gl : Nat} {pd : Value} {w w' : World} (h : LgPost L' D' F G gl pd w w') (hH : ∀ b, F b ∨ G b → H b) : LogPost L' D' H (.pointer (some ⟨gl, 0, none⟩)) pd w w' := by
  obtain ⟨F', G', sv, st, q1, q2, q3, q4⟩ := h
  refine ⟨⟨F', G', gl, sv, st, rfl, q1, fun b q => ?_⟩, q4.mono fun b q => .inl (hH b q)⟩
  rcases q with q | q
  · exact (q2 b q).imp (fun z => hH b (.inl z)) id
  · exact (q3 b q).imp (fun z => hH b (.inr z)) id
theorem IsLog.below {L : LogP} {D : DevP} {w w' : World} {H : Nat → Prop} {pl pd : Value} (h : IsLog L D w H pl pd) (hb : Below w.heap.size w w') : IsLog L D w' H pl pd := by
  obtain ⟨F, G, gl, sv, st, e, q, hH⟩ := h
  exact ⟨F, G, gl, sv, st, e, q.below hb, hH⟩
theorem IsLog.only {L : LogP} {D : DevP} {w w' : World} {H S : Nat → Prop} {pl pd : Value} (h : IsLog L D w H pl pd) (ho : Only S w w') (hs : ∀ b, H b → ¬ S b) : IsLog L D w' H pl pd := by
  obtain ⟨F, G, gl, sv, st, e, q, hH⟩ := h
  exact ⟨F, G, gl, sv, st, e, ⟨q.dev.only ho fun b z => hs b (hH b (.inl z)), q.log.only ho fun b z => hs b (hH b (.inr z)), q.dis, fun b z => Nat.lt_of_lt_of_le (q.hiF b z) ho.size, fun b z => Nat.lt_of_lt_of_le (q.hiG b z) ho.size⟩, hH⟩
theorem IsLog.mono {L : LogP} {D : DevP} {w : World} {H H' : Nat → Prop} {pl pd : Value} (h : IsLog L D w H pl pd) (hs : ∀ b, H b → H' b) : IsLog L D w H' pl pd := by
  obtain ⟨F, G, gl, sv, st, e, q, hH⟩ := h
  exact ⟨F, G, gl, sv, st, e, q, fun b z => hs b (hH b z)⟩
end Go.Proofs.Ytkganajbilnanaa
