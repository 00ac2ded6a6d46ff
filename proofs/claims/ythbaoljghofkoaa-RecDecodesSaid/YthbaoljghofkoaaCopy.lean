/- The builtin copy into a row of the call's own, or into a block that is known whole. Conditions: none; no program in sight. -/
import Derived.Test.YthbaoljghofkoaaWords
import Derived.Test.YthbaoljghofkoaaFrames
import Derived.Test.YthbaoljghofkoaaSteps
import Derived.Maps.AppendAt
import Derived.Laws.CopyOwn
namespace Go.Proofs.Ythbaoljghofkoaa
open Go.RowKit
set_option linter.unusedVariables false
set_option linter.unusedSimpArgs false

theorem run_copy_at {P : Program} {w : World} (dT sT ty elem : TypeId) (hu : P.underlying dT = some (.slice elem)) (hsz : (P.info? elem).map (·.size) = some 1)
    (base g o dl dc m cap : Nat) (xs : List Value) (hown : w.ownsRow base elem 1 (.slice (some ⟨g, 0, none⟩) m cap) m xs) (hod : o + dl ≤ m)
    (B : Nat) (A : Option Addr) (sl sc : Nat) (news : List Value) (hl : news.length = sl) (hat : At w B A news) (h1 : ∀ v ∈ news, v.oneCell' = true) :
    ∃ w', (Builtin.copy_ #[dT, sT] ty #[.slice (some ⟨g, o, none⟩) dl dc, .slice A sl sc]).run P w = .ok (goInt ((min sl dl : Nat) : Int)) w' ∧ w'.ownsRow base elem 1 (.slice (some ⟨g, 0, none⟩) m cap) m (xs.take o ++ news.take (min sl dl) ++ xs.drop (o + min sl dl)) ∧ w.grownBy w' (some g) := by
  subst hl
  have hxs : xs.length = m := by have := hown.1; omega
  rcases Nat.eq_zero_or_pos (min news.length dl) with h0 | h0
  · refine ⟨w, ?_, ?_, World.grownBy.refl w _⟩
    · rw [h0]
      exact run_copy_none (P := P) w dT sT ty elem _ A dl dc news.length sc hu hsz h0
    · rw [h0]
      simpa using hown
  · obtain ⟨b, of, rfl, _, _⟩ := hat 0 (by omega)
    rcases hown.2 with ⟨h', _⟩ | ⟨g', cap', cur, h', hb, hg, hnc, hcm, hcs, htake⟩
    · simp at h'
    · simp only [Value.slice.injEq, Option.some.injEq, Addr.mk.injEq, and_true, true_and] at h'
      obtain ⟨rfl, rfl⟩ := h'
      rw [Nat.mul_one] at hcs htake
      have hsrc : ∀ j v, (news.take (min news.length dl))[j]? = some v → w.cell? ((⟨b, of, none⟩ : Addr).add j) = some v := fun j v hj => by
        rw [List.getElem?_take] at hj
        split at hj
        · obtain ⟨hj1, hj2⟩ := List.getElem?_eq_some_iff.1 hj
          obtain ⟨b', o', e', _, hc⟩ := hat j hj1
          injection e' with e'
          injection e' with e1 e2
          subst e1
          subst e2
          have : (⟨b, of, none⟩ : Addr).add j = ⟨b, of + j, none⟩ := by
            unfold Addr.add
            split
            · subst_vars; rfl
            · rfl
          rw [this, hc, hj2]
        · cases hj
      have hln : (news.take (min news.length dl)).length = min news.length dl := by rw [List.length_take]; omega
      have hrun := run_copy_row (P := P) w dT sT ty elem g o dl dc ⟨b, of, none⟩ news.length sc cur elem (news.take (min news.length dl)) hu hsz hg hln hsrc (by rw [hln]; omega) (fun v hv => h1 v (List.mem_of_mem_take hv))
      rw [hln] at hrun
      refine ⟨_, hrun, ?_, ?_⟩
      · have hX : (cur.toList.take o ++ news.take (min news.length dl) ++ cur.toList.drop (o + min news.length dl)).length = cap := by simp; omega
        refine ⟨by simp; omega, .inr ⟨g, cap, (cur.toList.take o ++ news.take (min news.length dl) ++ cur.toList.drop (o + min news.length dl)).toArray, rfl, hb, setRow_heap _ _ _ _ _ _ hg, hnc, hcm, by rw [Nat.mul_one, List.size_toArray]; exact hX, ?_⟩⟩
        rw [Nat.mul_one, ← htake]
        simp only [List.toList_toArray]
        have hcl : cur.toList.length = cap := by rw [Array.length_toList]; exact hcs
        have e1 : (cur.toList.take o ++ news.take (min news.length dl)).length = o + min news.length dl := by rw [List.length_append, List.length_take, hln]; omega
        rw [List.take_append, List.take_of_length_le (l := cur.toList.take o ++ _) (by rw [e1]; omega), e1, List.take_take, Nat.min_eq_left (show o ≤ m by omega), List.drop_take]
      · exact ⟨rfl, rfl, rfl, by simp [World.setRow], fun k hk hne => setRow_other w g k _ (by intro e; exact hne (by rw [e]))⟩
theorem wp_copy_at {P : Program} {w : World} {o : Oper} {a : Act} {K : Act → World → Prop} {Q : Exit → Act → World → Prop} (d s : Operand) (dT sT : TypeId)
    (ho : o.op = .call { callee := .builtin .copy, args := #[d, s], argTypes := #[dT, sT] }) (elem : TypeId) (hu : P.underlying dT = some (.slice elem)) (hsz : (P.info? elem).map (·.size) = some 1)
    (base g of dl dc m cap : Nat) (xs : List Value) (hd : a.eval d = .slice (some ⟨g, of, none⟩) dl dc) (hown : w.ownsRow base elem 1 (.slice (some ⟨g, 0, none⟩) m cap) m xs) (hod : of + dl ≤ m)
    (B : Nat) (A : Option Addr) (sl sc : Nat) (news : List Value) (hs : a.eval s = .slice A sl sc) (hl : news.length = sl) (hat : At w B A news) (h1 : ∀ v ∈ news, v.oneCell' = true)
    (h : ∀ w', w'.ownsRow base elem 1 (.slice (some ⟨g, 0, none⟩) m cap) m (xs.take of ++ news.take (min sl dl) ++ xs.drop (of + min sl dl)) → w.grownBy w' (some g) → K (a.put o.dst (goInt ((min sl dl : Nat) : Int))) w') : o.wp P a w K Q := by
  obtain ⟨w', hrun, h2, h3⟩ := run_copy_at (P := P) (w := w) dT sT o.type elem hu hsz base g of dl dc m cap xs hown hod B A sl sc news hl hat h1
  unfold Oper.wp execOp
  simp only [ho, resolve, invoke, builtin, Sem.run_bind, Sem.run_pure, Result.andThen_ok, List.map_toArray, List.map_cons, List.map_nil, hd, hs, hrun]
  exact h w' h2 h3
theorem step_copy_at {P : Program} {w : World} {ops : Array Oper} {o : Oper} {a : Act} {K : Act → World → Prop} {Q : Exit → Act → World → Prop} {E : Prop} (hgd : o.guard = none) (d s : Operand) (dT sT : TypeId)
    (ho : o.op = .call { callee := .builtin .copy, args := #[d, s], argTypes := #[dT, sT] }) (elem : TypeId) (hu : P.underlying dT = some (.slice elem)) (hsz : (P.info? elem).map (·.size) = some 1)
    (base g of dl dc m cap : Nat) (xs : List Value) (hd : a.eval d = .slice (some ⟨g, of, none⟩) dl dc) (hown : w.ownsRow base elem 1 (.slice (some ⟨g, 0, none⟩) m cap) m xs) (hod : of + dl ≤ m)
    (B : Nat) (A : Option Addr) (sl sc : Nat) (news : List Value) (hs : a.eval s = .slice A sl sc) (hl : news.length = sl) (hat : At w B A news) (h1 : ∀ v ∈ news, v.oneCell' = true)
    (h : ∀ w', w'.ownsRow base elem 1 (.slice (some ⟨g, 0, none⟩) m cap) m (xs.take of ++ news.take (min sl dl) ++ xs.drop (of + min sl dl)) → w.grownBy w' (some g) → K (a.put o.dst (goInt ((min sl dl : Nat) : Int))) w') :
    if Region.wanted o (yielded ops a.tmps) = true then Oper.wp P o a w K Q else E := by
  have hw : Region.wanted o (yielded ops a.tmps) = true := by simp [Region.wanted, hgd]
  rw [if_pos hw]
  exact wp_copy_at d s dT sT ho elem hu hsz base g of dl dc m cap xs hd hown hod B A sl sc news hs hl hat h1 h
theorem wpList_copy_at {P : Program} {w : World} {ops : Array Oper} {rest : List Oper} {o : Oper} {a : Act} {Q : Exit → Act → World → Prop} (hgd : o.guard = none) (d s : Operand) (dT sT : TypeId)
    (ho : o.op = .call { callee := .builtin .copy, args := #[d, s], argTypes := #[dT, sT] }) (elem : TypeId) (hu : P.underlying dT = some (.slice elem)) (hsz : (P.info? elem).map (·.size) = some 1)
    (base g of dl dc m cap : Nat) (xs : List Value) (hd : a.eval d = .slice (some ⟨g, of, none⟩) dl dc) (hown : w.ownsRow base elem 1 (.slice (some ⟨g, 0, none⟩) m cap) m xs) (hod : of + dl ≤ m)
    (B : Nat) (A : Option Addr) (sl sc : Nat) (news : List Value) (hs : a.eval s = .slice A sl sc) (hl : news.length = sl) (hat : At w B A news) (h1 : ∀ v ∈ news, v.oneCell' = true)
    (h : ∀ w', w'.ownsRow base elem 1 (.slice (some ⟨g, 0, none⟩) m cap) m (xs.take of ++ news.take (min sl dl) ++ xs.drop (of + min sl dl)) → w.grownBy w' (some g) → wpList P ops Q rest (a.put o.dst (goInt ((min sl dl : Nat) : Int))) w') :
    wpList P ops Q (o :: rest) a w :=
  wpList_plain hgd fun _ hK => wp_copy_at d s dT sT ho elem hu hsz base g of dl dc m cap xs hd hown hod B A sl sc news hs hl hat h1 fun w' h2 h3 => hK _ _ (h w' h2 h3)
end Go.Proofs.Ythbaoljghofkoaa
