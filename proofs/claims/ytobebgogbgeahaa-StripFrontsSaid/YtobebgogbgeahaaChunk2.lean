/- slices.Chunk itself; what its value gives a loop. -/
import Derived.Test.YtobebgogbgeahaaChunk
namespace Go.Proofs.Ytobebgogbgeahaa
open Go.RowKit Go.Shelf
attribute [local go_sem] Oper.semAt_some
set_option linter.unusedVariables false
set_option linter.unusedSimpArgs false

theorem Boxes2.t {a b : Nat} {A B C : World} (h : Boxes2 a b A B) (k : Boxes2 a b B C) : Boxes2 a b A C := ⟨k.1.trans h.1, k.2.trans h.2⟩
theorem Boxes2.b {a b : Nat} {w : World} (ha : a < w.heap.size) (hb : b < w.heap.size) (W : World) (l : Nat) (o o' : Obj) (hl : w.heap.size ≤ l) (h : W.heap[l]? = some o) (_ : o.isCells = false) (_ : o.isWalk = false) : Boxes2 a b W (W.putObj l o') :=
  ⟨World.putObj_heap_other (by omega), World.putObj_heap_other (by omega)⟩

set_option maxRecDepth 100000 in
set_option maxHeartbeats 1000000 in
theorem chunk_in (n : Nat) (A : Option Addr) (len c : Nat) (w : World) :
    CallsIn Fence.wide n Try.prog 19 #[.slice A len c, .int .i64 127] w fun e w' => e = .returned (.func (.func 21) #[] #[.pointer (some ⟨w.heap.size, 0, none⟩), .pointer (some ⟨w.heap.size + 1, 0, none⟩)]) ∧
      w' = (w.alloc (.cells #[.slice A len c] 22)).alloc (.cells #[.int .i64 127] 3) := by
  refine callsIn_of_wp Try.func19 rfl trivial ?_ rfl
  simp only [Try.ntmps19, List.size_toArray, List.length_cons, List.length_nil, Nat.reduceAdd, Nat.reduceSub, Array.replicate_succ, Array.replicate_zero, List.push_toArray, List.append_toArray, List.nil_append, List.cons_append]
  gi_wp2
  go_ret
  exact ⟨rfl, rfl⟩

theorem chunk_stops (n : Nat) (hn : 1 ≤ n) (Bs Bn : Nat) (A : Option Addr) (zs : List Nat) (c : Nat) (hcap : zs.length ≤ c) (hlen : zs.length ≤ 1000000) (hA : zs ≠ [] → ∃ b o, A = some ⟨b, o, none⟩) (w : World)
    (hb1 : Bs < w.heap.size) (hb2 : Bn < w.heap.size) (hBs : w.cell? ⟨Bs, 0, none⟩ = some (.slice A zs.length c)) (hBn : w.cell? ⟨Bn, 0, none⟩ = some (.int .i64 127)) :
    SeqStopsK Fence.wide n Try.prog 21 #[.pointer (some ⟨Bs, 0, none⟩), .pointer (some ⟨Bn, 0, none⟩)] (fun k : Nat => #[chunkV A zs k]) (Boxes2 Bs Bn) (fun ys => ys = List.range (chunks zs)) (fun pre => pre <+: List.range (chunks zs)) (chunks zs) w :=
  fun l J Jx W hW hJ _ hY h0 =>
    chunk1_in n hn l Bs Bn A zs c hcap hlen hA J Jx _ hJ hY W ((hW.cell (p := ⟨Bs, 0, none⟩) hb1).trans hBs) ((hW.cell (p := ⟨Bn, 0, none⟩) hb2).trans hBn) h0

/-- This value is a slice that owns the bytes l (5: uint8's number). -/
def RowIs (w : World) (base : Nat) (v : Value) (l : List Nat) : Prop := (∃ A c, v = .slice A l.length c) ∧ w.ownsRow base 5 1 v l.length (l.map byteV) ∧ Small l
/-- Each of these values .. -/
def Rows (w : World) (base : Nat) (L : List Value) (ls : List (List Nat)) : Prop := L.length = ls.length ∧ ∀ (j : Nat) (v : Value) (l : List Nat), L[j]? = some v → ls[j]? = some l → RowIs w base v l

theorem Rows.nil (w : World) (base : Nat) : Rows w base [] [] := ⟨rfl, fun j v l h => by simp at h⟩
theorem Rows.imp {w w' : World} {base : Nat} {L : List Value} {ls : List (List Nat)} (h : Rows w base L ls) (f : ∀ (v : Value) (l : List Nat), w.ownsRow base 5 1 v l.length (l.map byteV) → w'.ownsRow base 5 1 v l.length (l.map byteV)) : Rows w' base L ls :=
  ⟨h.1, fun j v l hv hl => by
    obtain ⟨h1, h2, h3⟩ := h.2 j v l hv hl
    exact ⟨h1, f v l h2, h3⟩⟩
theorem Rows.snoc {w : World} {base : Nat} {L : List Value} {ls : List (List Nat)} (h : Rows w base L ls) {v : Value} {l : List Nat} (hv : RowIs w base v l) : Rows w base (L ++ [v]) (ls ++ [l]) :=
  ⟨by simp [h.1], fun j u m hu hm => by
    rcases Nat.lt_trichotomy j L.length with q | q | q
    · rw [List.getElem?_append_left q] at hu
      rw [List.getElem?_append_left (by rw [← h.1]; exact q)] at hm
      exact h.2 j u m hu hm
    · subst q
      rw [List.getElem?_append_right (Nat.le_refl _)] at hu
      rw [List.getElem?_append_right (by rw [h.1]; exact Nat.le_refl _), h.1] at hm
      simp at hu hm
      subst hu
      subst hm
      exact hv
    · rw [List.getElem?_eq_none (by simp; omega)] at hu
      cases hu⟩

/-- Two rows of unlike types are two rows. -/
theorem own_apart {w : World} {b b' : Nat} {e e' : TypeId} (hne : e ≠ e') {s s' : Nat} {v v' : Value} {n n' : Nat} {xs xs' : List Value} (h : w.ownsRow b e s v n xs) (h' : w.ownsRow b' e' s' v' n' xs') : v.ownBlock = none ∨ v.ownBlock ≠ v'.ownBlock := by
  rcases h.2 with ⟨rfl, _⟩ | ⟨g, cap, cur, rfl, _, hgb, _⟩
  · exact .inl rfl
  · right
    rcases h'.2 with ⟨rfl, _⟩ | ⟨g', cap', cur', rfl, _, hgb', _⟩
    · simp [Value.ownBlock]
    · intro e
      obtain rfl : g = g' := by simpa [Value.ownBlock] using e
      rw [hgb] at hgb'
      simp at hgb'
      exact hne hgb'.2
theorem own_notcells {w : World} {b : Nat} {e : TypeId} {s : Nat} {v : Value} {n : Nat} {xs : List Value} (h : w.ownsRow b e s v n xs) {row : Option Nat} (hr : ∀ r, row = some r → ∃ o : Obj, w.heap[r]? = some o ∧ o.isCells = false) : v.ownBlock = none ∨ v.ownBlock ≠ row := by
  rcases h.2 with ⟨rfl, _⟩ | ⟨g, cap, cur, rfl, _, hgb, _⟩
  · exact .inl rfl
  · right
    intro e
    obtain ⟨o, ho, hc⟩ := hr g (by simpa [Value.ownBlock] using e.symm)
    rw [hgb] at ho
    cases ho
    cases hc
/-- .. and a row and a block of another type. -/
theorem own_block {w : World} {b : Nat} {e e' : TypeId} (hne : e ≠ e') {s : Nat} {v : Value} {n : Nat} {xs : List Value} (h : w.ownsRow b e s v n xs) {B : Nat} {cs : Array Value} {f : Nat × Nat} (hB : w.heap[B]? = some (.cells cs e' f)) : v.ownBlock = none ∨ v.ownBlock ≠ some B := by
  rcases h.2 with ⟨rfl, _⟩ | ⟨g, cap, cur, rfl, _, hgb, _⟩
  · exact .inl rfl
  · right
    intro e
    obtain rfl : g = B := by simpa [Value.ownBlock] using e
    rw [hgb] at hB
    simp at hB
    exact hne hB.2.1

/-- 'copy(d, s)' into a row of the call's own: what is there then. -/
theorem wpListIn_copy_row {F : Fence} {n : Nat} {P : Program} {w : World} {ops : Array Oper} {rest : List Oper} {o : Oper} {a : Act} {Q : Exit → Act → World → Prop} (hgd : o.guard = none) (d s : Operand) (dT sT : TypeId)
    (ho : o.op = .call { callee := .builtin .copy, args := #[d, s], argTypes := #[dT, sT] }) (elem : TypeId) (hu : P.underlying dT = some (.slice elem)) (hsz : (P.info? elem).map (·.size) = some 1)
    (base g m cap : Nat) (xs : List Value) (hd : a.eval d = .slice (some ⟨g, 0, none⟩) m cap) (hown : w.ownsRow base elem 1 (.slice (some ⟨g, 0, none⟩) m cap) m xs)
    (B : Nat) (A : Option Addr) (sl sc : Nat) (news : List Value) (hs : a.eval s = .slice A sl sc) (hl : news.length = sl) (hat : At w B A news) (hle : sl ≤ m) (h1 : ∀ v ∈ news, v.oneCell' = true)
    (h : ∀ w', w'.ownsRow base elem 1 (.slice (some ⟨g, 0, none⟩) m cap) m (news ++ xs.drop sl) → w.grownBy w' (some g) → wpListIn F n P ops Q rest (a.put o.dst (goInt sl)) w') :
    wpListIn F n P ops Q (o :: rest) a w := by
  subst hl
  have hxs : xs.length = m := by have := hown.1; omega
  have key : ∃ w', (Builtin.copy_ #[dT, sT] o.type #[.slice (some ⟨g, 0, none⟩) m cap, .slice A news.length sc]).run P w = .ok (goInt news.length) w' ∧ w'.ownsRow base elem 1 (.slice (some ⟨g, 0, none⟩) m cap) m (news ++ xs.drop news.length) ∧ w.grownBy w' (some g) := by
    cases hn : news with
    | nil =>
      refine ⟨w, ?_, by simpa using hown, World.grownBy.refl w _⟩
      exact run_copy_none (P := P) w dT sT o.type elem _ A m cap 0 sc hu hsz (by simp)
    | cons u us =>
      rw [← hn]
      obtain ⟨b, of, rfl, _, _⟩ := hat 0 (by rw [hn]; simp)
      rcases hown.2 with ⟨h', _⟩ | ⟨g', cap', cur, h', hb, hg, hnc, hcm, hcs, htake⟩
      · simp at h'
      · simp only [Value.slice.injEq, Option.some.injEq, Addr.mk.injEq, and_true, true_and] at h'
        obtain ⟨rfl, rfl⟩ := h'
        rw [Nat.mul_one] at hcs htake
        have hsrc : ∀ j v, news[j]? = some v → w.cell? ((⟨b, of, none⟩ : Addr).add j) = some v := fun j v hj => by
          obtain ⟨hj1, hj2⟩ := List.getElem?_eq_some_iff.1 hj
          obtain ⟨b', o', e', _, hc⟩ := hat j hj1
          injection e' with e'
          injection e' with e1 e2
          subst e1
          subst e2
          have : (⟨b, of, none⟩ : Addr).add j = ⟨b, of + j, none⟩ := by
            unfold Addr.add
            split
            · subst_vars; rfl
            · rfl
          rw [this, hc, hj2]
        have hrun := run_copy_row (P := P) w dT sT o.type elem g 0 m cap ⟨b, of, none⟩ news.length sc cur elem news hu hsz hg (Nat.min_eq_left hle).symm hsrc (by omega) h1
        refine ⟨_, hrun, ?_, ?_⟩
        · have hX : (List.take 0 cur.toList ++ news ++ List.drop (0 + news.length) cur.toList).length = cap := by simp; omega
          refine ⟨by simp; omega, .inr ⟨g, cap, (List.take 0 cur.toList ++ news ++ List.drop (0 + news.length) cur.toList).toArray, rfl, hb, setRow_heap _ _ _ _ _ _ hg, hnc, hcm, by rw [Nat.mul_one, List.size_toArray]; exact hX, ?_⟩⟩
          rw [Nat.mul_one, ← htake]
          simp only [List.take_zero, List.nil_append, Nat.zero_add, List.toList_toArray]
          rw [List.take_append, List.take_of_length_le hle, List.drop_take]
        · exact ⟨rfl, rfl, rfl, by simp [World.setRow], fun k hk hne => setRow_other w g k _ (by intro e; exact hne (by rw [e]))⟩
  obtain ⟨w', hrun, h2, h3⟩ := key
  refine wpListIn_plain hgd fun K hK' => ?_
  unfold Oper.wpIn
  refine ⟨?_, ?_⟩
  · simp [Oper.about, ho, resolve, Target.leads, Sem.run_pure]
  · rw [Oper.semAt_plain F _ _ (by rw [ho]; intro c hc'; cases hc')]
    simp [execOp, ho, resolve, invoke, builtin, hd, hs, hrun, Result.andThen]
    exact hK' _ _ (h w' h2 h3)
end Go.Proofs.Ytobebgogbgeahaa
