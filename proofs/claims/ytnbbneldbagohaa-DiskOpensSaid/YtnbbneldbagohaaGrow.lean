/- A file gets one sector more by append. Conditions: the files lie there. -/
import Derived.Test.YtnbbneldbagohaaDiskDev
namespace Go.Proofs.Ytnbbneldbagohaa
open Go.ChangeShapes Go.WideShapes Go.ChangeAt Go.RowKit
set_option linter.unusedVariables false
set_option linter.unusedSimpArgs false

/-- append of one element of 'size' cells inside a statement that draws its order -/
theorem wp_append_row {P : Program} {w : World} {o : Oper} {a : Act} {K : Act → World → Prop} {Q : Exit → Act → World → Prop} (s x : Operand) (t : TypeId)
    (ho : o.op = .call { callee := .builtin .append, args := #[s, x], argTypes := #[t, t] })
    (base : Nat) (e : TypeId) (i : TypeInfo) (z : Value) (size bytes : Nat) (ht : P.underlying t = some (.slice e)) (hi : P.info? e = some i) (hz : i.zero = some z)
    (hsize : i.size = size) (hby : i.bytes = bytes) (hzs : z.cells.size = size) (hsz : 0 < size) (v : Value) (n : Nat) (xs : List Value) (hs : a.eval s = v) (hown : w.ownsRow base e size v n xs)
    (ad : Addr) (m c : Nat) (news : List Value) (hx : a.eval x = .slice (some ad) m c) (hl : news.length = m * size) (hnews : ∀ j u, news[j]? = some u → w.cell? (ad.add j) = some u) (h1 : ∀ u ∈ news, u.oneCell' = true)
    (h63 : n + m ≤ maxLen) (hbytes : (n + m) * bytes ≤ 140737488355328) (hbase : base ≤ w.heap.size)
    (h : ∀ A' c' w', w'.ownsRow base e size (.slice A' (n + m) c') (n + m) (xs ++ news) → w.grownBy w' v.ownBlock → ((Value.slice A' (n + m) c').ownBlock = v.ownBlock ∨ (Value.slice A' (n + m) c').ownBlock = some w.heap.size) →
      K (a.put o.dst (.slice A' (n + m) c')) w') : o.wp P a w K Q := by
  obtain ⟨v', w', hrun, h2, h3, _, h5⟩ := run_append_own_at (P := P) w base t o.type e i z size bytes ht hi hz hsize hby hzs hsz v n xs hown ad m c news hl hnews h1 h63 hbytes hbase
  obtain ⟨A', c', rfl, _⟩ := own_form h2
  unfold Oper.wp execOp
  simp only [ho, resolve, invoke, builtin, Sem.run_bind, Sem.run_pure, Result.andThen_ok, List.map_toArray, List.map_cons, List.map_nil, hs, hx, hrun]
  exact h A' c' w' h2 h3 h5
theorem step_append_row {P : Program} {w : World} {ops : Array Oper} {o : Oper} {a : Act} {K : Act → World → Prop} {Q : Exit → Act → World → Prop} {E : Prop} (hgd : o.guard = none) (s x : Operand) (t : TypeId)
    (ho : o.op = .call { callee := .builtin .append, args := #[s, x], argTypes := #[t, t] })
    (base : Nat) (e : TypeId) (i : TypeInfo) (z : Value) (size bytes : Nat) (ht : P.underlying t = some (.slice e)) (hi : P.info? e = some i) (hz : i.zero = some z)
    (hsize : i.size = size) (hby : i.bytes = bytes) (hzs : z.cells.size = size) (hsz : 0 < size) (v : Value) (n : Nat) (xs : List Value) (hs : a.eval s = v) (hown : w.ownsRow base e size v n xs)
    (ad : Addr) (m c : Nat) (news : List Value) (hx : a.eval x = .slice (some ad) m c) (hl : news.length = m * size) (hnews : ∀ j u, news[j]? = some u → w.cell? (ad.add j) = some u) (h1 : ∀ u ∈ news, u.oneCell' = true)
    (h63 : n + m ≤ maxLen) (hbytes : (n + m) * bytes ≤ 140737488355328) (hbase : base ≤ w.heap.size)
    (h : ∀ A' c' w', w'.ownsRow base e size (.slice A' (n + m) c') (n + m) (xs ++ news) → w.grownBy w' v.ownBlock → ((Value.slice A' (n + m) c').ownBlock = v.ownBlock ∨ (Value.slice A' (n + m) c').ownBlock = some w.heap.size) →
      K (a.put o.dst (.slice A' (n + m) c')) w') : if Region.wanted o (yielded ops a.tmps) = true then Oper.wp P o a w K Q else E := by
  have hw : Region.wanted o (yielded ops a.tmps) = true := by simp [Region.wanted, hgd]
  rw [if_pos hw]
  exact wp_append_row s x t ho base e i z size bytes ht hi hz hsize hby hzs hsz v n xs hs hown ad m c news hx hl hnews h1 h63 hbytes hbase h
theorem wpList_append_row {P : Program} {w : World} {ops : Array Oper} {rest : List Oper} {o : Oper} {a : Act} {Q : Exit → Act → World → Prop} (hgd : o.guard = none) (s x : Operand) (t : TypeId)
    (ho : o.op = .call { callee := .builtin .append, args := #[s, x], argTypes := #[t, t] })
    (base : Nat) (e : TypeId) (i : TypeInfo) (z : Value) (size bytes : Nat) (ht : P.underlying t = some (.slice e)) (hi : P.info? e = some i) (hz : i.zero = some z)
    (hsize : i.size = size) (hby : i.bytes = bytes) (hzs : z.cells.size = size) (hsz : 0 < size) (v : Value) (n : Nat) (xs : List Value) (hs : a.eval s = v) (hown : w.ownsRow base e size v n xs)
    (ad : Addr) (m c : Nat) (news : List Value) (hx : a.eval x = .slice (some ad) m c) (hl : news.length = m * size) (hnews : ∀ j u, news[j]? = some u → w.cell? (ad.add j) = some u) (h1 : ∀ u ∈ news, u.oneCell' = true)
    (h63 : n + m ≤ maxLen) (hbytes : (n + m) * bytes ≤ 140737488355328) (hbase : base ≤ w.heap.size)
    (h : ∀ A' c' w', w'.ownsRow base e size (.slice A' (n + m) c') (n + m) (xs ++ news) → w.grownBy w' v.ownBlock → ((Value.slice A' (n + m) c').ownBlock = v.ownBlock ∨ (Value.slice A' (n + m) c').ownBlock = some w.heap.size) →
      wpList P ops Q rest (a.put o.dst (.slice A' (n + m) c')) w') : wpList P ops Q (o :: rest) a w :=
  wpList_plain hgd fun _ hK => wp_append_row s x t ho base e i z size bytes ht hi hz hsize hby hzs hsz v n xs hs hown ad m c news hx hl hnews h1 h63 hbytes hbase fun A' c' w' h2 h3 h4 => hK _ _ (h A' c' w' h2 h3 h4)
/-- the cells of a block just made -/
theorem new_cells (w : World) (news : List Value) (t : TypeId) (f : Nat × Nat) (j : Nat) (u : Value) (h : news[j]? = some u) : (w.alloc (.cells news.toArray t f)).cell? ((⟨w.heap.size, 0, none⟩ : Addr).add j) = some u := by
  obtain ⟨hj, hju⟩ := List.getElem?_eq_some_iff.1 h
  obtain ⟨b, o, he, _, hc⟩ := At.new w news t f j hj
  injection he with he
  injection he with e1 e2
  subst e1
  subst e2
  have : (⟨w.heap.size, 0, none⟩ : Addr).add j = ⟨w.heap.size, 0 + j, none⟩ := by
    unfold Addr.add
    split
    · subst_vars; rfl
    · rfl
  rw [this, hc, hju]

def appF (f : Nat → List Sect) (n : Nat) (l : List Nat) (m : Nat) : List Sect := if m = n then f m ++ [⟨l, []⟩] else f m
def updV (s : Nat → Value) (n : Nat) (v : Value) (m : Nat) : Value := if m = n then v else s m
theorem FilesAt.grow {ts : TypeId} {f : Nat → List Sect} {w w1 : World} {F F' : Nat → Prop} {s : Nat → Value} {X : Nat → List Value} (h : FilesAt ts f w F s X) (hts : ts ≠ 28) (hts2 : ts ≠ 5)
    {n base : Nat} (hn : n < 2) {v' u : Value} {l : List Nat} (ho : w1.ownsRow base ts 2 v' ((f n).length + 1) (X n ++ [u, .slice none 0 0])) (hg : w.grownBy w1 (s n).ownBlock) (hat : v'.ownBlock = (s n).ownBlock ∨ v'.ownBlock = some w.heap.size)
    (hu : Txt w1 F' u l) (hFF : ∀ b, F b → F' b) (hFn : v'.ownBlock = some w.heap.size → F' w.heap.size) :
    FilesAt ts (appF f n l) w1 F' (updV s n v') (updX X n (X n ++ [u, .slice none 0 0])) := by
  have hO : Only (fun b => (s n).ownBlock = some b) w w1 := Only.of_grown hg fun b e => .inl e
  obtain ⟨hrow, hFrow, hsec⟩ := h.file n hn
  have hXl : (X n).length = 2 * (f n).length := by have := hrow.1; omega
  have hnu : ∀ b, F b → U8 w b → ¬ (s n).ownBlock = some b := fun b _ hb e => hts2 ((own_ty hrow e).uniq hb)
  have hwk : ∀ (v : Value) (ws : List (List Nat)), IsWaits w F v ws → IsWaits w1 F' v ws := fun v ws q => (q.only hO hnu (by
    obtain ⟨L, q1, _⟩ := q
    exact fun b e e' => hts ((own_ty hrow e').uniq (own_ty q1 e)))).mono hFF
  have htk : ∀ (v : Value) (l : List Nat), Txt w F v l → Txt w1 F' v l := fun v l q => (q.only hO hnu).mono fun b z _ => hFF b z
  refine ⟨fun m hm => ?_, ?_, ?_⟩
  · by_cases e : m = n
    · subst e
      unfold appF updV updX
      rw [if_pos rfl, if_pos rfl, if_pos rfl]
      refine ⟨by rw [List.length_append]; exact own_base (Nat.zero_le _) ho, fun b e => ?_, fun i sc hi => ?_⟩
      · rcases hat with z | z
        · exact hFF b (hFrow b (z.symm.trans e))
        · have z' := z
          rw [z] at e
          injection e with e
          subst e
          exact hFn z'
      · rcases Nat.lt_trichotomy i (f m).length with q | q | q
        · rw [List.getElem?_append_left q] at hi
          obtain ⟨lv, wv, e1, e2, e3, e4⟩ := hsec i sc hi
          exact ⟨lv, wv, by rw [List.getElem?_append_left (by omega)]; exact e1, by rw [List.getElem?_append_left (by omega)]; exact e2, htk _ _ e3, hwk _ _ e4⟩
        · subst q
          rw [List.getElem?_append_right (Nat.le_refl _), Nat.sub_self] at hi
          injection hi with hi
          subst hi
          refine ⟨u, .slice none 0 0, ?_, ?_, hu, IsWaits.nil _ _⟩
          · rw [List.getElem?_append_right (by omega), hXl, Nat.sub_self]; rfl
          · rw [List.getElem?_append_right (by omega), hXl, Nat.add_sub_cancel_left]; rfl
        · rw [List.getElem?_eq_none (by simp; omega)] at hi
          cases hi
    · unfold appF updV updX
      rw [if_neg e, if_neg e, if_neg e]
      obtain ⟨h1, h2, h3⟩ := h.file m hm
      refine ⟨hO.own h1 fun b q q' => ?_, fun b q => hFF b (h2 b q), fun i sc hi => ?_⟩
      · have hd : (s m).ownBlock ≠ (s n).ownBlock := by
          have h0 := h.rows
          rcases (show (m = 0 ∧ n = 1) ∨ (m = 1 ∧ n = 0) from by omega) with ⟨rfl, rfl⟩ | ⟨rfl, rfl⟩
          · rcases h0 with z | z
            · rw [z] at q; cases q
            · exact z
          · rcases h0 with z | z
            · rw [z] at q'; cases q'
            · exact fun y => z y.symm
        exact hd (q.trans q'.symm)
      · obtain ⟨lv, wv, e1, e2, e3, e4⟩ := h3 i sc hi
        exact ⟨lv, wv, e1, e2, htk _ _ e3, hwk _ _ e4⟩
  · have hlt : ∀ j, j < 2 → ∀ b, (s j).ownBlock = some b → b < w.heap.size := fun j hj b e => ((h.file j hj).1.lt b e).2
    rcases (show n = 0 ∨ n = 1 from by omega) with rfl | rfl
    · show v'.ownBlock = none ∨ v'.ownBlock ≠ (s 1).ownBlock
      rcases hat with z | z
      · rw [z]; exact h.rows
      · right
        rw [z]
        intro e
        have := hlt 1 (by omega) _ e.symm
        omega
    · show (s 0).ownBlock = none ∨ (s 0).ownBlock ≠ v'.ownBlock
      rcases hat with z | z
      · rw [z]; exact h.rows
      · cases hs : (s 0).ownBlock with
        | none => exact .inl rfl
        | some b =>
          right
          rw [z]
          intro e
          injection e with e
          have := hlt 0 (by omega) b hs
          omega
  · intro j i j' i' a b hj hj' hne ha hb
    have key : ∀ j i a, j < 2 → (updX X n (X n ++ [u, .slice none 0 0]) j)[2 * i + 1]? = some a → a = .slice none 0 0 ∨ (X j)[2 * i + 1]? = some a := fun j i a hj hq => by
      unfold updX at hq
      by_cases e : j = n
      · subst e
        rw [if_pos rfl] at hq
        rcases Nat.lt_or_ge (2 * i + 1) (X j).length with q | q
        · rw [List.getElem?_append_left q] at hq
          exact .inr hq
        · rw [List.getElem?_append_right q] at hq
          have hi : i = (f j).length := by
            have := (List.getElem?_eq_some_iff.1 hq).1
            simp at this
            omega
          subst hi
          rw [hXl, Nat.add_sub_cancel_left] at hq
          injection hq with hq
          exact .inl hq.symm
      · rw [if_neg e] at hq
        exact .inr hq
    rcases key j i a hj ha with rfl | q1
    · exact .inl rfl
    · rcases key j' i' b hj' hb with rfl | q2
      · cases hx : a.ownBlock with
        | none => exact .inl rfl
        | some b => exact .inr (by simp [Value.ownBlock])
      · exact h.apart j i j' i' a b hj hj' hne q1 q2
theorem DevAt.growF {hal : Bool} {f : Nat → List Sect} {w w1 : World} {F F' : Nat → Prop} {gp : Nat} {s : Nat → Value} {lv : Value} {X : Nat → List Value} (h : DevAt ⟨f, none, hal⟩ w F gp s lv X)
    {n base : Nat} (hn : n < 2) {v' u : Value} {l : List Nat} (ho : w1.ownsRow base 70 2 v' ((f n).length + 1) (X n ++ [u, .slice none 0 0])) (hg : w.grownBy w1 (s n).ownBlock) (hat : v'.ownBlock = (s n).ownBlock ∨ v'.ownBlock = some w.heap.size)
    (hu : Txt w1 F' u l) (hFF : ∀ b, F b → F' b) (hFn : v'.ownBlock = some w.heap.size → F' w.heap.size) :
    DevAt ⟨appF f n l, none, hal⟩ (w1.setCell ⟨gp, n, none⟩ v') F' gp (updV s n v') lv (updX X n (X n ++ [u, .slice none 0 0])) := by
  have hO : Only (fun b => (s n).ownBlock = some b) w w1 := Only.of_grown hg fun b e => .inl e
  have hb := h.blk.only hO (fun q => absurd (h.blk.ty.uniq (own_ty (h.file n hn).1 q)) (by decide))
  have hfar : Far w1 70 (fun b => b = gp) := fun b q _ => by
    subst q
    exact ⟨_, hb.ty, by decide, by decide, by decide⟩
  have ho2 : Only (fun b => b = gp) w1 (w1.setCell ⟨gp, n, none⟩ v') := (Only.refl (fun b => b = gp) w1).setCell (p := ⟨gp, n, none⟩) (.inl rfl) _
  refine ⟨(h.toFilesAt.grow (by decide) (by decide) hn ho hg hat hu hFF hFn).far ho2 hfar, ?_, hFF _ h.inF, h.left⟩
  have := hb.set_ n v'
  rcases (show n = 0 ∨ n = 1 from by omega) with rfl | rfl
  · simpa [updV] using this
  · simpa [updV] using this
end Go.Proofs.Ytnbbneldbagohaa
