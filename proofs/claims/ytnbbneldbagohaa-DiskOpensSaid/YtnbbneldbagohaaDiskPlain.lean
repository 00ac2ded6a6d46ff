/- The plain device: what each call answers, what is left. Conditions: none; no program in sight. -/
import Derived.Test.YtnbbneldbagohaaDiskGoes
namespace Go.Proofs.Ytnbbneldbagohaa
set_option linter.unusedVariables false
set_option linter.unusedSimpArgs false

/-- each list of a sector has 128 bytes, no more than N wait; no more than 4096 sectors -/
def DevP.good (D : DevP) (N : Nat) : Prop := ∀ n, n < 2 → (D.f n).length ≤ 4096 ∧ ∀ s ∈ D.f n, s.last.length = 128 ∧ s.waits.length ≤ N ∧ ∀ l ∈ s.waits, l.length = 128
theorem DevP.good.mono {D : DevP} {N M : Nat} (h : D.good N) (hm : N ≤ M) : D.good M := fun n hn => ⟨(h n hn).1, fun s hs => ⟨((h n hn).2 s hs).1, Nat.le_trans ((h n hn).2 s hs).2.1 hm, ((h n hn).2 s hs).2.2⟩⟩
theorem DevP.good.at_ {D : DevP} {N : Nat} (h : D.good N) {n : Nat} (hn : n < 2) {k : Nat} (hk : k < (D.f n).length) : (D.f n)[k].last.length = 128 ∧ (D.f n)[k].waits.length ≤ N ∧ ∀ l ∈ (D.f n)[k].waits, l.length = 128 := (h n hn).2 _ (List.getElem_mem hk)
theorem newest_128 {s : Sect} (h1 : s.last.length = 128) (h2 : ∀ l ∈ s.waits, l.length = 128) : s.newest.length = 128 := by
  unfold Sect.newest
  cases h : s.waits.getLast? with
  | none => exact h1
  | some l => exact h2 l (List.mem_of_getLast? h)
theorem DevP.good.goes {D : DevP} {N : Nat} (h : D.good N) : D.goes.2.good N := fun n hn => by rw [DevP.goes_f]; exact h n hn

def DevP.put (D : DevP) (n k : Nat) (s : Sect) : DevP := { D with f := putF D.f n k s }
/-- a sector and one more that waits -/
def Sect.more (s : Sect) (l : List Nat) : Sect := ⟨s.last, s.waits ++ [l]⟩
def DevP.sect (D : DevP) (n k : Nat) : Sect := (D.f n)[k]?.getD ⟨[], []⟩
theorem DevP.sect_eq {D : DevP} {n k : Nat} (hk : k < (D.f n).length) : D.sect n k = (D.f n)[k] := by
  unfold DevP.sect
  rw [List.getElem?_eq_getElem hk]
  rfl
instance (D : DevP) (n : Nat) (i : Int) : Decidable (D.has n i) := by unfold DevP.has; exact inferInstance
/-- Write -/
def DevP.write (D : DevP) (n : Nat) (i : Int) (l : List Nat) : Nat × DevP :=
  if D.has n i then (if l.length = 128 then (0, if D.goes.1 then D.goes.2.put n i.toNat ((D.sect n i.toNat).more l) else D.goes.2) else (1, D)) else (50, D)
/-- Read -/
def DevP.read (D : DevP) (n : Nat) (i : Int) : List Nat × Nat := if D.has n i then ((D.sect n i.toNat).newest, 0) else ([], 50)
def DevP.waits (D : DevP) (n : Nat) (i : Int) : Nat := if D.has n i then (D.sect n i.toNat).waits.length else 0
def mapF (D : DevP) (n : Nat) (g : Nat → Sect → Sect) (m : Nat) : List Sect := if m = n then (D.f m).mapIdx g else D.f m
/-- Sync -/
def DevP.sync (D : DevP) (n : Nat) : DevP := if n < 2 then (if D.goes.1 then { D.goes.2 with f := mapF D n fun _ s => ⟨s.newest, []⟩ } else D.goes.2) else D
def DevP.halt (D : DevP) (n : Int) : DevP := { D with left := some (max n 0).toNat }
def DevP.image (D : DevP) (n : Nat) : List (List Nat) := if n < 2 then (D.f n).map Sect.last else []
/-- what a crash does to a sector -/
structure FateP where
  file : Nat
  sector : Int
  keep : Int
  torn : Int
def FateP.zero : FateP := ⟨0, 0, 0, 0⟩
def fateFor (l : List FateP) (n k : Nat) : FateP := (l.find? fun x => decide (x.file = n) && decide (x.sector = (k : Int))).getD FateP.zero
/-- how many are kept -/
def keepN (s : Sect) (f : FateP) : Nat := min (max f.keep 0).toNat s.waits.length
def keptL (s : Sect) (k : Nat) : List Nat := if k = 0 then s.last else s.waits[k - 1]?.getD []
def Sect.crash (s : Sect) (f : FateP) : Sect :=
  ⟨if keepN s f < s.waits.length then (s.waits[keepN s f]?.getD []).take (min (max f.torn 0).toNat 128) ++ (keptL s (keepN s f)).drop (min (max f.torn 0).toNat 128) else keptL s (keepN s f), []⟩
def DevP.crash (D : DevP) (l : List FateP) : DevP := ⟨fun n => (D.f n).mapIdx fun k s => s.crash (fateFor l n k), none, false⟩
def DevP.new (a b : Nat) : DevP := ⟨fun n => List.replicate (if n = 0 then a else if n = 1 then b else 0) ⟨List.replicate 128 0, []⟩, none, false⟩

theorem putF_length (f : Nat → List Sect) (n k : Nat) (s : Sect) (m : Nat) : (putF f n k s m).length = (f m).length := by
  unfold putF
  split
  · rw [List.length_set]
  · rfl
theorem DevP.good.put {D : DevP} {N : Nat} (h : D.good N) {n k : Nat} {s : Sect} (h1 : s.last.length = 128) (h2 : s.waits.length ≤ N) (h3 : ∀ l ∈ s.waits, l.length = 128) : (D.put n k s).good N := fun m hm => by
  refine ⟨by show (putF D.f n k s m).length ≤ _; rw [putF_length]; exact (h m hm).1, fun s' hs => ?_⟩
  have : s' ∈ putF D.f n k s m := hs
  unfold putF at this
  split at this
  · rcases List.mem_or_eq_of_mem_set this with q | q
    · exact (h m hm).2 s' q
    · subst q
      exact ⟨h1, h2, h3⟩
  · exact (h m hm).2 s' this
theorem DevP.good.write {D : DevP} {N : Nat} (h : D.good N) (n : Nat) (i : Int) (l : List Nat) : (D.write n i l).2.good (N + 1) := by
  unfold DevP.write
  split
  · rename_i hh
    obtain ⟨h1, h2, h3⟩ := hh
    split
    · rename_i hl
      split
      · have hk : i.toNat < (D.f n).length := by omega
        obtain ⟨q1, q2, q3⟩ := h.at_ h1 hk
        rw [DevP.sect_eq hk]
        refine (h.goes.mono (Nat.le_succ N)).put q1 (by simp [Sect.more]; exact q2) fun x hx => ?_
        rcases List.mem_append.1 hx with z | z
        · exact q3 x z
        · rw [List.mem_singleton.1 z]; exact hl
      · exact h.goes.mono (Nat.le_succ N)
    · exact h.mono (Nat.le_succ N)
  · exact h.mono (Nat.le_succ N)
theorem mapF_length (D : DevP) (n : Nat) (g : Nat → Sect → Sect) (m : Nat) : (mapF D n g m).length = (D.f m).length := by
  unfold mapF
  split
  · rw [List.length_mapIdx]
  · rfl
theorem DevP.good.sync {D : DevP} {N : Nat} (h : D.good N) (n : Nat) : (D.sync n).good N := by
  unfold DevP.sync
  split
  · split
    · intro m hm
      refine ⟨by show (mapF D n _ m).length ≤ _; rw [mapF_length]; exact (h m hm).1, fun s' hs => ?_⟩
      have : s' ∈ mapF D n (fun _ s => ⟨s.newest, []⟩) m := hs
      unfold mapF at this
      split at this
      · obtain ⟨i, hi, rfl⟩ := List.mem_mapIdx.1 this
        obtain ⟨q1, q2, q3⟩ := h.at_ hm hi
        exact ⟨newest_128 q1 q3, Nat.zero_le _, fun x hx => by cases hx⟩
      · exact (h m hm).2 s' this
    · exact h.goes
  · exact h
theorem keptL_128 {s : Sect} (h1 : s.last.length = 128) (h2 : ∀ l ∈ s.waits, l.length = 128) {k : Nat} (hk : k ≤ s.waits.length) : (keptL s k).length = 128 := by
  unfold keptL
  split
  · exact h1
  · rw [List.getElem?_eq_getElem (by omega)]
    exact h2 _ (List.getElem_mem _)
theorem crash_128 {s : Sect} (h1 : s.last.length = 128) (h2 : ∀ l ∈ s.waits, l.length = 128) (f : FateP) : (s.crash f).last.length = 128 := by
  have hk : keepN s f ≤ s.waits.length := Nat.min_le_right _ _
  have q := keptL_128 h1 h2 hk
  unfold Sect.crash
  dsimp only
  split
  · rename_i hlt
    rw [List.length_append, List.length_take, List.length_drop, q, List.getElem?_eq_getElem hlt, Option.getD_some, h2 _ (List.getElem_mem _)]
    omega
  · exact q
theorem DevP.good.crash {D : DevP} {N : Nat} (h : D.good N) (l : List FateP) : (D.crash l).good 0 := fun n hn => by
  refine ⟨by show ((D.f n).mapIdx _).length ≤ _; rw [List.length_mapIdx]; exact (h n hn).1, fun s' hs => ?_⟩
  have : s' ∈ (D.f n).mapIdx fun k s => s.crash (fateFor l n k) := hs
  obtain ⟨i, hi, rfl⟩ := List.mem_mapIdx.1 this
  obtain ⟨q1, q2, q3⟩ := h.at_ hn hi
  exact ⟨crash_128 q1 q3 _, Nat.zero_le _, fun x hx => by cases hx⟩
theorem DevP.good_new {a b : Nat} (ha : a ≤ 4096) (hb : b ≤ 4096) : (DevP.new a b).good 0 := fun n hn => by
  refine ⟨?_, fun s hs => ?_⟩
  · show (List.replicate _ _).length ≤ _
    rw [List.length_replicate]
    split
    · exact ha
    · split
      · exact hb
      · omega
  · have : s ∈ List.replicate (if n = 0 then a else if n = 1 then b else 0) (⟨List.replicate 128 0, []⟩ : Sect) := hs
    rw [(List.mem_replicate.1 this).2]
    exact ⟨List.length_replicate .., Nat.zero_le _, fun x hx => by cases hx⟩
end Go.Proofs.Ytnbbneldbagohaa
