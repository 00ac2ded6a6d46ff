/- The log, plain: a device of which nothing waits. Conditions: none; no program in sight. -/
import Derived.Test.YtkganajbilnanaaWWalZ0
namespace Go.Proofs.Ytkganajbilnanaa
open NumMath
set_option linter.unusedVariables false
set_option linter.unusedSimpArgs false

/-- a device that is not to be halted; what was written last of its log -/
structure Live (D : DevP) (V : List (List Nat)) : Prop where
  view : (D.f 0).map Sect.newest = V
  left : D.left = none
  run : D.halted = false
/-- .. of which nothing waits -/
structure Quiet (D : DevP) (C : List (List Nat)) : Prop where
  f : D.f 0 = C.map fun c => ⟨c, []⟩
  left : D.left = none
  run : D.halted = false
section
variable {D : DevP} {C V : List (List Nat)}
theorem Quiet.live (h : Quiet D C) : Live D C := ⟨by rw [h.f, List.map_map]; exact (List.map_congr_left fun c _ => rfl).trans (List.map_id C), h.left, h.run⟩
theorem Live.length (h : Live D V) : (D.f 0).length = V.length := by rw [← h.view, List.length_map]
theorem Quiet.length (h : Quiet D C) : (D.f 0).length = C.length := h.live.length
theorem Live.goes (h : Live D V) : D.goes = (true, D) := by
  unfold DevP.goes
  rw [h.left]
theorem Live.read (h : Live D V) {k : Nat} (hk : k < V.length) : D.read 0 (k : Int) = (V[k], 0) := by
  have hl := h.length
  have hkl : k < (D.f 0).length := by omega
  rw [DevP.read_in hkl, DevP.sect_eq hkl]
  obtain ⟨s, hs⟩ : ∃ s, (D.f 0)[k] = s := ⟨_, rfl⟩
  rw [hs]
  have h1 : (D.f 0)[k]? = some s := by rw [List.getElem?_eq_getElem hkl, hs]
  have h2 : V[k]? = some s.newest := by rw [← h.view, List.getElem?_map, h1]; rfl
  rw [List.getElem?_eq_getElem hk] at h2
  rw [Option.some.inj h2]
theorem Live.write (h : Live D V) {k : Nat} (hk : k < V.length) {l : List Nat} (hl : l.length = 128) : Live (D.write 0 (k : Int) l).2 (V.set k l) := by
  have hln := h.length
  have hh : D.has 0 (k : Int) := ⟨by omega, by omega, by omega⟩
  have e : (D.write 0 (k : Int) l).2 = D.put 0 k ((D.sect 0 k).more l) := by
    unfold DevP.write
    rw [if_pos hh, if_pos hl, h.goes]
    rfl
  rw [e]
  refine ⟨?_, h.left, h.run⟩
  show (putD D.f 0 k ((D.sect 0 k).more l) 0).map Sect.newest = _
  unfold putD
  rw [if_pos rfl, List.map_set, h.view]
  congr 1
  unfold Sect.newest Sect.more
  simp
theorem Live.sync (h : Live D V) : Quiet (D.sync 0) V := by
  unfold DevP.sync
  rw [if_pos (by omega), h.goes]
  refine ⟨?_, h.left, h.run⟩
  show mapF D 0 (fun _ s => ⟨s.newest, []⟩) 0 = _
  unfold mapF
  rw [if_pos rfl, ← h.view, List.map_map]
  apply List.ext_getElem
  · simp
  · intro i h1 h2
    simp
theorem Quiet.crash (h : Quiet D C) (l : List FateP) : Quiet (D.crash l) C := by
  refine ⟨?_, rfl, rfl⟩
  show (D.f 0).mapIdx (fun k s => s.crash (fateFor l 0 k)) = _
  rw [h.f]
  apply List.ext_getElem
  · simp
  · intro i h1 h2
    simp only [List.getElem_mapIdx, List.getElem_map]
    unfold Sect.crash keepN
    simp [keptL]
end
/-- sectors from p on, to be so -/
def updN (C : List (List Nat)) (p : Nat) (want : List (List Nat)) : Nat → List (List Nat)
  | 0 => C
  | n + 1 => (updN C p want n).set (p + n) (wantAt want n)
theorem updN_length (C : List (List Nat)) (p : Nat) (want : List (List Nat)) : ∀ n, (updN C p want n).length = C.length
  | 0 => rfl
  | n + 1 => by
    show ((updN C p want n).set _ _).length = _
    rw [List.length_set, updN_length C p want n]
theorem updN_at (C : List (List Nat)) (p : Nat) (want : List (List Nat)) : ∀ (n i : Nat), p + n ≤ C.length → (updN C p want n)[i]? = if p ≤ i ∧ i < p + n then some (wantAt want (i - p)) else C[i]?
  | 0, i, h => by
    rw [if_neg (by omega)]
    rfl
  | n + 1, i, h => by
    show ((updN C p want n).set (p + n) (wantAt want n))[i]? = _
    rw [List.getElem?_set, updN_length, updN_at C p want n i (by omega)]
    by_cases e : p + n = i
    · rw [if_pos e, if_pos (by omega), if_pos (by omega)]
      congr 2
      omega
    · rw [if_neg e]
      by_cases q : p ≤ i ∧ i < p + n
      · rw [if_pos q, if_pos (by omega)]
      · rw [if_neg q, if_neg (by omega)]
theorem wantAt_len {want : List (List Nat)} (h : ∀ l ∈ want, l.length = 128) (i : Nat) : (wantAt want i).length = 128 := by
  unfold wantAt
  rcases hi : want[i]? with _ | l
  · exact List.length_replicate
  · exact h l (List.mem_of_getElem? hi)
theorem makeN_live {D : DevP} {C : List (List Nat)} (h : Quiet D C) {p : Nat} {want : List (List Nat)} (hw : ∀ l ∈ want, l.length = 128) : ∀ n, p + n ≤ C.length → Live (makeN D p want n).1 (updN C p want n) ∧ ((makeN D p want n).2 = false → (makeN D p want n).1 = D)
  | 0, _ => ⟨h.live, fun _ => rfl⟩
  | n + 1, hn => by
    obtain ⟨ih, ih2⟩ := makeN_live (p := p) h hw n (by omega)
    have hlen := updN_length C p want n
    have hr := ih.read (k := p + n) (by omega)
    show Live (if ((makeN D p want n).1.read 0 ((p + n : Nat) : Int)).1 = wantAt want n then makeN D p want n else (((makeN D p want n).1.write 0 ((p + n : Nat) : Int) (wantAt want n)).2, true)).1 ((updN C p want n).set (p + n) (wantAt want n)) ∧ _
    rw [hr]
    simp only
    split
    · rename_i e
      refine ⟨?_, ?_⟩
      · rw [← e, List.set_getElem_self]
        exact ih
      · intro q
        have e2 : makeN D p want (n + 1) = makeN D p want n := by
          show (if ((makeN D p want n).1.read 0 ((p + n : Nat) : Int)).1 = wantAt want n then makeN D p want n else (((makeN D p want n).1.write 0 ((p + n : Nat) : Int) (wantAt want n)).2, true)) = _
          rw [hr]
          simp only
          rw [if_pos e]
        rw [e2] at q ⊢
        exact ih2 q
    · rename_i e
      refine ⟨ih.write (by omega) (wantAt_len hw n), fun q => ?_⟩
      have e2 : makeN D p want (n + 1) = (((makeN D p want n).1.write 0 ((p + n : Nat) : Int) (wantAt want n)).2, true) := by
        show (if ((makeN D p want n).1.read 0 ((p + n : Nat) : Int)).1 = wantAt want n then makeN D p want n else (((makeN D p want n).1.write 0 ((p + n : Nat) : Int) (wantAt want n)).2, true)) = _
        rw [hr]
        simp only
        rw [if_neg e]
      rw [e2] at q
      cases q
theorem makeP_quiet {D : DevP} {C : List (List Nat)} (h : Quiet D C) {p n : Nat} {want : List (List Nat)} (hw : ∀ l ∈ want, l.length = 128) (hn : p + n ≤ C.length) : Quiet (makeP D p n want) (updN C p want n) := by
  obtain ⟨h1, h2⟩ := makeN_live h hw n hn
  unfold makeP
  cases hb : (makeN D p want n).2 with
  | true =>
    rw [if_pos rfl]
    exact h1.sync
  | false =>
    rw [if_neg (by simp)]
    have h3 := h2 hb
    rw [h3] at h1 ⊢
    have : updN C p want n = C := by
      have a := h1.view
      have b := h.live.view
      rw [← a, ← b]
    rw [this]
    exact h
theorem sayD_quiet {L : LogP} {D : DevP} {C : List (List Nat)} (h : Quiet D C) (hs : 2 ≤ C.length) : Quiet (sayD L D) (C.set (1 - L.slot) (hsec (sayL L).h)) :=
  (h.live.write (k := 1 - L.slot) (by omega) (hsec_length _)).sync
theorem wrN_live {D : DevP} {C : List (List Nat)} (h : Live D C) {p : Nat} {ls : List (List Nat)} (hw : ∀ l ∈ ls, l.length = 128) : ∀ n, n ≤ ls.length → p + n ≤ C.length → Live (wrN D p ls n) (updN C p ls n)
  | 0, _, _ => h
  | n + 1, h1, h2 => by
    have ih := wrN_live (p := p) h hw n (by omega) (by omega)
    have hlen := updN_length C p ls n
    have e : ls[n]?.getD [] = wantAt ls n := by
      unfold wantAt
      rw [List.getElem?_eq_getElem (by omega)]
      rfl
    show Live ((wrN D p ls n).write 0 ((p + n : Nat) : Int) (ls[n]?.getD [])).2 _
    rw [e]
    exact ih.write (by omega) (wantAt_len hw n)
/-- what a header's sector is, and what a log of it is -/
structure Inv (L : LogP) (D : DevP) (rs : List RecP) (C : List (List Nat)) : Prop where
  q : Quiet D C
  fit : L.fit rs
  may : L.h.may
  pos : 0 < L.h.stamp
  size : 2 + 2 * L.strips ≤ C.length
  strips : L.strips = (C.length - 2) / 2
  big : 18 ≤ C.length
  head : C[L.slot]? = some (hsec L.h)
  other : ∀ b, C[1 - L.slot]? = some b → isHead b = true → (wheadP b).stamp < L.h.stamp
  area : ∀ i, i < L.strips → C[firstP L L.h.area + i]? = some (wantAt (layOf (L.stream.take L.lasts)) i)
  mark : ∃ j, j ≤ rs.length ∧ L.lasts = offK rs j
end Go.Proofs.Ytkganajbilnanaa
