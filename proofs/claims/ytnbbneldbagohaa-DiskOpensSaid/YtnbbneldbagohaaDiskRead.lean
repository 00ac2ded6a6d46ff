/- disk: Read. Conditions: the device lies there. -/
import Derived.Test.YtnbbneldbagohaaDiskWaits
namespace Go.Proofs.Ytnbbneldbagohaa
open Go.ChangeShapes Go.WideShapes Go.ChangeAt Go.RowKit
set_option linter.unusedVariables false
set_option linter.unusedSimpArgs false

/-- what was written last -/
def Sect.newest (s : Sect) : List Nat := s.waits.getLast?.getD s.last
section
variable {D : DevP} {w : World} {F : Nat → Prop} {gp : Nat} {s : Nat → Value} {lv : Value} {X : Nat → List Value}
/-- newest: a text -/
theorem newest_any (h : DevAt D w F gp s lv X) {n : Nat} (hn : n < 2) {k : Nat} (hk : k < (D.f n).length) (hL : (D.f n)[k].waits.length ≤ 100000) {g c : Nat} (es : s n = .slice (some ⟨g, 0, none⟩) (D.f n).length c) :
    Calls Try.prog 39 #[.pointer (some ⟨g, 2 * k, none⟩)] w fun e w' => (∃ u, e = .returned u ∧ Txt w F u (D.f n)[k].newest) ∧ w = w' := by
  obtain ⟨g', c', lv', wv, es', q0, q1, ht, hw, -⟩ := sector_at h hn hk
  rw [es] at es'
  injection es' with e1 _ _
  injection e1 with e1
  injection e1 with e1 _
  subst e1
  generalize (D.f n)[k] = sc at *
  obtain ⟨L, ho, hF, hT⟩ := hw
  unfold Sect.newest
  rcases Nat.eq_zero_or_pos sc.waits.length with h0 | h0
  · obtain ⟨A, c2, rfl, -, -⟩ := own_form ho
    rw [h0] at q1
    have e : sc.waits = [] := List.length_eq_zero_iff.1 h0
    rw [e]
    exact (newest_none g (2 * k) lv' A c2 w q0 q1).mono fun e w' hh => ⟨⟨lv', hh.1, ht⟩, hh.2⟩
  · obtain ⟨A, c2, rfl, -, -⟩ := own_form ho
    obtain ⟨b2, rfl, hb2, hb2'⟩ := own_pos ho h0
    obtain ⟨m, hm⟩ : ∃ m, sc.waits.length = m + 1 := ⟨sc.waits.length - 1, by omega⟩
    have hLl : L.length = m + 1 := by have := ho.1; omega
    have hu : L[m]? = some (L[m]'(by omega)) := List.getElem?_eq_getElem (by omega)
    have hl : sc.waits[m]? = some (sc.waits[m]'(by omega)) := List.getElem?_eq_getElem (by omega)
    have hx := hT m _ _ hu hl
    have e : sc.waits.getLast?.getD sc.last = sc.waits[m]'(by omega) := by
      have e' : sc.waits.length - 1 = m := by omega
      rw [List.getLast?_eq_getElem?, e', hl]; rfl
    rw [e]
    have qc : w.cell? ⟨b2, 0 + m, none⟩ = some (L[m]'(by omega)) := by rw [Nat.zero_add]; exact (ho.cellAt m (by omega)).trans hu
    rw [hm] at q1
    have h1 : (L[m]'(by omega)).oneCell' = true := by obtain ⟨A, c, e, _⟩ := hx; rw [e]; rfl
    exact (newest_some g (2 * k) b2 0 _ m c2 w (by omega) q1 qc h1).mono fun e w' hh => ⟨⟨_, hh.1, hx⟩, hh.2⟩
/-- bytes of its own, and a number -/
def RetB2 (l : List Nat) (no : Int) (w : World) (e : Ending) (w' : World) : Prop :=
  ∃ A c, e = .returned (.tuple #[.slice A l.length c, .int .u16 no]) ∧ w'.ownsRow w.heap.size 5 1 (.slice A l.length c) l.length (l.map byteV) ∧ Below w.heap.size w w' ∧ Small l
theorem read_none (h : DevAt D w F gp s lv X) (n : Nat) (hn : n < 256) (i : Int) (hi : ¬ D.has n i) :
    Calls Try.prog 20 #[.pointer (some ⟨gp, 0, none⟩), .int .u8 n, .int .i64 i] w fun e w' => e = .returned (.tuple #[.slice none 0 0, .int .u16 50]) ∧ w = w' := by
  have ha := at_none h n hn i hi
  clear h
  go_enter Try.func20, Try.ntmps20
  go_wp2_with (go_at_call 32; refine ha.mono ?_; rintro e w1 ⟨rfl, rfl⟩)
  go_ret2
  exact ⟨rfl, rfl⟩
theorem read_some (h : DevAt D w F gp s lv X) (n : Nat) (hn : n < 2) (k : Nat) (hk : k < (D.f n).length) (hL : (D.f n).length ≤ 4096) (hw : (D.f n)[k].waits.length ≤ 100000) (hl : (D.f n)[k].newest.length ≤ 1000000) :
    Calls Try.prog 20 #[.pointer (some ⟨gp, 0, none⟩), .int .u8 n, .int .i64 k] w (RetB2 (D.f n)[k].newest 0 w) := by
  obtain ⟨g, c, _, _, es, -⟩ := sector_at h hn hk
  have ha := at_some h n hn k hk hL es
  have hnw := newest_any h hn hk hw es
  generalize (D.f n)[k].newest = l at *
  clear h
  go_enter Try.func20, Try.ntmps20
  go_wp2_with fail
  refine ha.mono ?_
  rintro e w1 ⟨rfl, rfl⟩
  go_wp2_with fail
  refine hnw.mono ?_
  rintro e w1 ⟨⟨u, rfl, ht⟩, rfl⟩
  obtain ⟨A, c1, rfl, hc1, hb⟩ := ht.bytes
  have hcl := clone_any A c1 l _ w hb (Nat.le_refl _) hl
  clear ht
  go_wp2_with fail
  refine hcl.mono ?_
  rintro e w2 ⟨A2, c2, rfl, ho, hb2, hs⟩
  go_wp2
  go_ret2
  exact ⟨A2, c2, rfl, ho, hb2, hs⟩
end
end Go.Proofs.Ytnbbneldbagohaa
