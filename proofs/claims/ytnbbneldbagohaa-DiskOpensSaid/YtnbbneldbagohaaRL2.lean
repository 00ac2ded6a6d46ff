/- The law DiskLasts: plain part, and rows that stay beside a device. Conditions: none. -/
import Derived.Test.YtnbbneldbagohaaRL1
namespace Go.Proofs.Ytnbbneldbagohaa
open Go.ChangeShapes Go.WideShapes Go.ChangeAt Go.RowKit
set_option linter.unusedVariables false
set_option linter.unusedSimpArgs false
set_option maxRecDepth 20000

theorem crash_last_nil {s : Sect} (h : s.waits = []) (f : FateP) : (s.crash f).last = s.last := by
  have hk : keepN s f = 0 := by unfold keepN; rw [h]; simp
  unfold Sect.crash
  dsimp only
  rw [hk, h]
  rfl
theorem crash_waits (D : DevP) (l : List FateP) (n : Nat) : ∀ s ∈ (D.crash l).f n, s.waits = [] := fun s hs => by
  have hs' : s ∈ (D.f n).mapIdx fun k s => s.crash (fateFor l n k) := hs
  obtain ⟨i, hi, rfl⟩ := List.mem_mapIdx.1 hs'
  rfl
theorem crash_image {D : DevP} {n : Nat} (h : ∀ s ∈ D.f n, s.waits = []) (l : List FateP) : (D.crash l).image n = D.image n := by
  unfold DevP.image
  split
  · show ((D.f n).mapIdx fun k s => s.crash (fateFor l n k)).map Sect.last = _
    apply List.ext_getElem
    · simp
    · intro i h1 h2
      simp only [List.getElem_map, List.getElem_mapIdx]
      exact crash_last_nil (h _ (List.getElem_mem _)) _
  · rfl
theorem sync_waits {D : DevP} (h : D.left = none) {n : Nat} (hn : n < 2) : ∀ s ∈ (D.sync n).f n, s.waits = [] := fun s hs => by
  unfold DevP.sync at hs
  rw [goes_none h, if_pos hn, if_pos rfl] at hs
  have hs' : s ∈ mapF D n (fun _ s => ⟨s.newest, []⟩) n := hs
  unfold mapF at hs'
  rw [if_pos rfl] at hs'
  obtain ⟨i, hi, rfl⟩ := List.mem_mapIdx.1 hs'
  rfl
theorem doesP_left {D : DevP} (h : D.left = none) {x : OpP} (hx : x.kind % 9 ≠ 8) : (D.doesP x).left = none := by
  unfold DevP.doesP
  rw [if_neg hx]
  split
  · exact h
  · split
    · exact sync_left h _
    · split
      · rfl
      · split
        · exact h
        · exact write_left h _ _ _
theorem crash_at_nil {D : DevP} (l : List FateP) {k : Nat} (hk : k < (D.image 0).length) (hk2 : k < ((D.crash l).image 0).length) (hw : D.waits 0 (k : Nat) = 0) : ((D.crash l).image 0)[k] = (D.image 0)[k] := by
  have hl : k < (D.f 0).length := by
    have : (D.image 0).length = (D.f 0).length := by unfold DevP.image; rw [if_pos (by omega), List.length_map]
    omega
  have hwn : (D.f 0)[k].waits = [] := by
    unfold DevP.waits at hw
    rw [if_pos ⟨by omega, by omega, by omega⟩, Int.toNat_natCast, DevP.sect_eq hl] at hw
    exact List.eq_nil_of_length_eq_zero hw
  have e1 : (D.image 0)[k] = (D.f 0)[k].last := by
    simp only [DevP.image, if_pos (show 0 < 2 by omega), List.getElem_map]
  have e2 : ((D.crash l).image 0)[k] = ((D.f 0)[k].crash (fateFor l 0 k)).last := by
    simp only [DevP.image, if_pos (show 0 < 2 by omega), List.getElem_map, DevP.crash, List.getElem_mapIdx]
  rw [e1, e2]
  exact crash_last_nil hwn _
theorem crash_waits0 (D : DevP) (l : List FateP) (n : Nat) (i : Int) : (D.crash l).waits n i = 0 := by
  unfold DevP.waits
  split
  · rename_i h
    obtain ⟨h1, h2, h3⟩ := h
    obtain ⟨k, rfl⟩ := Int.eq_ofNat_of_zero_le h2
    have hk : k < ((D.crash l).f n).length := by omega
    rw [Int.toNat_natCast, DevP.sect_eq hk, crash_waits D l n _ (List.getElem_mem hk)]
    rfl
  · rfl
theorem image_length (D : DevP) {n : Nat} (hn : n < 2) : (D.image n).length = (D.f n).length := by unfold DevP.image; rw [if_pos hn, List.length_map]

/-- an image that was told: it lies outside the device -/
structure Img (w : World) (F : Nat → Prop) (A : Option Addr) (n c : Nat) (L : List Value) (ls : List (List Nat)) : Prop where
  own : w.ownsRow 0 28 1 (.slice A n c) n L
  out : ∀ b, (Value.slice A n c).ownBlock = some b → ¬ F b
  outs : Outs w F L ls
section
variable {w w' : World} {F S : Nat → Prop} {A : Option Addr} {n c : Nat} {L : List Value} {ls : List (List Nat)}
theorem Img.new (o : w'.ownsRow w.heap.size 28 1 (.slice A n c) n L) (r : Rows w' w.heap.size L ls) (hF : ∀ b, F b → b < w.heap.size) : Img w' F A n c L ls :=
  ⟨own_base (Nat.zero_le _) o, fun b e z => by have := (o.lt b e).1; have := hF b z; omega, r.1, fun j l hl => by
    have hj : j < L.length := by rw [r.1]; exact (List.getElem?_eq_some_iff.1 hl).1
    obtain ⟨⟨A, c, e⟩, ho, hs⟩ := r.2 j _ l (List.getElem?_eq_getElem hj) hl
    refine ⟨_, List.getElem?_eq_getElem hj, ?_⟩
    rw [e] at ho ⊢
    exact OutT.own (w := w) ho rfl hs hF⟩
theorem Img.post (h : Img w F A n c L ls) (ho : Only F w w') : Img w' (grow F w w') A n c L ls :=
  ⟨ho.own h.own h.out, fun b e z => z.elim (h.out b e) fun y => by have := (h.own.lt b e).2; omega, h.outs.post ho⟩
theorem Img.below (h : Img w F A n c L ls) (hb : Below w.heap.size w w') : Img w' F A n c L ls :=
  ⟨(Only.of_below hb (fun _ => False)).own h.own fun _ _ q => q, h.out, h.outs.below hb⟩
theorem Img.grown (h : Img w F A n c L ls) {u : Value} {base : Nat} {e : TypeId} {s m : Nat} {xs : List Value} (ho : w.ownsRow base e s u m xs) (he : e ≠ 5) (he2 : e ≠ 28) (hg : w.grownBy w' u.ownBlock) : Img w' F A n c L ls :=
  ⟨(Only.of_grown (S := fun b => u.ownBlock = some b) hg fun b e => .inl e).own h.own fun b q z => he2 ((own_ty ho z).uniq (own_ty h.own q)), h.out, h.outs.imp fun _ _ q => q.grown ho he hg⟩
theorem Img.at_ (h : Img w F A n c L ls) : At w w.heap.size A L ∧ Reads w w.heap.size L ls := ⟨At.own h.own, h.outs.reads⟩
/-- one text of it -/
theorem Img.elem (h : Img w F A n c L ls) {k : Nat} (hk : k < n) (hl : ls.length = n) (h128 : ∀ l ∈ ls, l.length = 128) : ∃ b A1 c1, A = some ⟨b, 0, none⟩ ∧ b < w.heap.size ∧ w.cell? ⟨b, k, none⟩ = some (.slice A1 128 c1) ∧ Bytes w w.heap.size A1 (ls[k]'(by omega)) := by
  obtain ⟨b, rfl, -, hb⟩ := own_pos h.own (by omega)
  obtain ⟨u, e1, e2⟩ := h.outs.2 k _ (List.getElem?_eq_getElem (show k < ls.length by omega))
  obtain ⟨A1, c1, rfl, -, hby⟩ := e2.bytes
  rw [h128 _ (List.getElem_mem _)] at e1
  exact ⟨b, A1, c1, rfl, hb, (h.own.cellAt k (by omega)).trans e1, hby.bytes⟩
end
theorem image_128 {D : DevP} {N : Nat} (hG : D.good N) {n : Nat} (hn : n < 2) : ∀ l ∈ D.image n, l.length = 128 := fun l hl => by
  unfold DevP.image at hl
  rw [if_pos hn] at hl
  obtain ⟨s, hs, rfl⟩ := List.mem_map.1 hl
  exact ((hG n hn).2 s hs).1
theorem Dv.grown {D : DevP} {w0 w w' : World} {F : Nat → Prop} {p u : Value} (h : Dv D w0 w F p) (hg : w.grownBy w' u.ownBlock) (hu : ∀ b, u.ownBlock = some b → ¬ F b) : Dv D w0 w' F p :=
  h.other2 (Only.of_grown (S := fun b => u.ownBlock = some b) hg fun b e => .inl e) fun x z q => hu x z q
theorem int_info : (Try.prog.info? 3).map (fun i => (i.zero, i.size, i.bytes)) = some (some (.int .i64 0), 1, 8) := by kernel_rfl
end Go.Proofs.Ytnbbneldbagohaa
