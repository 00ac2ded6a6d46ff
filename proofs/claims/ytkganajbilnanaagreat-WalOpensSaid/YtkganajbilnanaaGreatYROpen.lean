/- A file gets one sector more by append. Conditions: the files lie there. -/
import Derived.Test.YtkganajbilnanaaGreatYRSync
set_option linter.unusedVariables false
set_option linter.unusedSimpArgs false
namespace Go.Proofs.YtkganajbilnanaaGreat
open Go.ChangeShapes Go.WideShapes Go.ChangeAt Go.RowKit
theorem wp_append_row {P : Program} {w : World} {o : Oper} {a : Act} {K : Act → World → Prop} {Q : Exit → Act → World → Prop} (s x : Operand) (t : TypeId)
    (ho : o.op = .call { callee := .builtin .append, args := #[s, x], argTypes := #[t, t] })
    (base : Nat) (e : TypeId) (i : TypeInfo) (z : Value) (size bytes : Nat) (ht : P.underlying t = some (.slice e)) (hi : P.info? e = some i) (hz : i.zero = some z)
    (hsize : i.size = size) (hby : i.bytes = bytes) (hzs : z.cells.size = size) (hsz : 0 < size) (v : Value) (n : Nat) (xs : List Value) (hs : a.eval s = v) (hown : w.ownsRow base e size v n xs)
    (ad : Addr) (m c : Nat) (news : List Value) (hx : a.eval x = .slice (some ad) m c) (hl : news.length = m * size) (hnews : ∀ j u, news[j]? = some u → w.cell? (ad.add j) = some u) (h1 : ∀ u ∈ news, u.oneCell' = true)
    (h63 : n + m ≤ maxLen) (hbytes : (n + m) * bytes ≤ 140737488355328) (hbase : base ≤ w.heap.size)
    (h : ∀ A' c' w', w'.ownsRow base e size (.slice A' (n + m) c') (n + m) (xs ++ news) → w.grownBy w' v.ownBlock → ((Value.slice A' (n + m) c').ownBlock = v.ownBlock ∨ (Value.slice A' (n + m) c').ownBlock = some w.heap.size) →
      K (a.put o.dst (.slice A' (n + m) c')) w') : o.wp P a w K Q := by
  obtain ⟨v', w', hrun, h2, h3, _, h5⟩ := run_append_own_at (P := P) w base t o.type e i z size bytes ht hi hz hsize hby hzs hsz v n xs hown ad m c news hl hnews h1 h63 hbytes hbase
  obtain ⟨A', c', rfl, _⟩ := own_form h2
  unfold Oper.wp execOp
  simp only [ho, resolve, invoke, builtin, Sem.run_bind, Sem.run_pure, Result.andThen_ok, List.map_toArray, List.map_cons, List.map_nil, hs, hx, hrun]
  exact h A' c' w' h2 h3 h5
theorem step_append_row {P : Program} {w : World} {ops : Array Oper} {o : Oper} {a : Act} {K : Act → World → Prop} {Q : Exit → Act → World → Prop} {E : Prop} (hgd : o.guard = none) (s x : Operand) (t : TypeId)
    (ho : o.op = .call { callee := .builtin .append, args := #[s, x], argTypes := #[t, t] })
    (base : Nat) (e : TypeId) (i : TypeInfo) (z : Value) (size bytes : Nat) (ht : P.underlying t = some (.slice e)) (hi : P.info? e = some i) (hz : i.zero = some z)
    (hsize : i.size = size) (hby : i.bytes = bytes) (hzs : z.cells.size = size) (hsz : 0 < size) (v : Value) (n : Nat) (xs : List Value) (hs : a.eval s = v) (hown : w.ownsRow base e size v n xs)
    (ad : Addr) (m c : Nat) (news : List Value) (hx : a.eval x = .slice (some ad) m c) (hl : news.length = m * size) (hnews : ∀ j u, news[j]? = some u → w.cell? (ad.add j) = some u) (h1 : ∀ u ∈ news, u.oneCell' = true)
    (h63 : n + m ≤ maxLen) (hbytes : (n + m) * bytes ≤ 140737488355328) (hbase : base ≤ w.heap.size)
    (h : ∀ A' c' w', w'.ownsRow base e size (.slice A' (n + m) c') (n + m) (xs ++ news) → w.grownBy w' v.ownBlock → ((Value.slice A' (n + m) c').ownBlock = v.ownBlock ∨ (Value.slice A' (n + m) c').ownBlock = some w.heap.size) →
      K (a.put o.dst (.slice A' (n + m) c')) w') : if Region.wanted o (yielded ops a.tmps) = true then Oper.wp P o a w K Q else E := by
  have hw : Region.wanted o (yielded ops a.tmps) = true := by simp [Region.wanted, hgd]
  rw [if_pos hw]
  exact wp_append_row s x t ho base e i z size bytes ht hi hz hsize hby hzs hsz v n xs hs hown ad m c news hx hl hnews h1 h63 hbytes hbase h
theorem wpList_append_row {P : Program} {w : World} {ops : Array Oper} {rest : List Oper} {o : Oper} {a : Act} {Q : Exit → Act → World → Prop} (hgd : o.guard = none) (s x : Operand) (t : TypeId)
    (ho : o.op = .call { callee := .builtin .append, args := #[s, x], argTypes := #[t, t] })
    (base : Nat) (e : TypeId) (i : TypeInfo) (z : Value) (size bytes : Nat) (ht : P.underlying t = some (.slice e)) (hi : P.info? e = some i) (hz : i.zero = some z)
    (hsize : i.size = size) (hby : i.bytes = bytes) (hzs : z.cells.size = size) (hsz : 0 < size) (v : Value) (n : Nat) (xs : List Value) (hs : a.eval s = v) (hown : w.ownsRow base e size v n xs)
    (ad : Addr) (m c : Nat) (news : List Value) (hx : a.eval x = .slice (some ad) m c) (hl : news.length = m * size) (hnews : ∀ j u, news[j]? = some u → w.cell? (ad.add j) = some u) (h1 : ∀ u ∈ news, u.oneCell' = true)
    (h63 : n + m ≤ maxLen) (hbytes : (n + m) * bytes ≤ 140737488355328) (hbase : base ≤ w.heap.size)
    (h : ∀ A' c' w', w'.ownsRow base e size (.slice A' (n + m) c') (n + m) (xs ++ news) → w.grownBy w' v.ownBlock → ((Value.slice A' (n + m) c').ownBlock = v.ownBlock ∨ (Value.slice A' (n + m) c').ownBlock = some w.heap.size) →
      wpList P ops Q rest (a.put o.dst (.slice A' (n + m) c')) w') : wpList P ops Q (o :: rest) a w :=
  wpList_plain hgd fun _ hK => wp_append_row s x t ho base e i z size bytes ht hi hz hsize hby hzs hsz v n xs hs hown ad m c news hx hl hnews h1 h63 hbytes hbase fun A' c' w' h2 h3 h4 => hK _ _ (h A' c' w' h2 h3 h4)
theorem new_cells (w : World) (news : List Value) (t : TypeId) (f : Nat × Nat) (j : Nat) (u : Value) (h : news[j]? = some u) : (w.alloc (.cells news.toArray t f)).cell? ((⟨w.heap.size, 0, none⟩ : Addr).add j) = some u := by
  obtain ⟨hj, hju⟩ := List.getElem?_eq_some_iff.1 h
  obtain ⟨b, o, he, _, hc⟩ := At.new w news t f j hj
  injection he with he
  injection he with e1 e2
  subst e1
  subst e2
  have : (⟨w.heap.size, 0, none⟩ : Addr).add j = ⟨w.heap.size, 0 + j, none⟩ := by
    unfold Addr.add
    split
    · subst_vars; rfl
    · rfl
  rw [this, hc, hju]
def appF (f : Nat → List Sect) (n : Nat) (l : List Nat) (m : Nat) : List Sect := if m = n then f m ++ [⟨l, []⟩] else f m
def updV (s : Nat → Value) (n : Nat) (v : Value) (m : Nat) : Value := if m = n then v else s m
theorem FilesAt.grow {ts : TypeId} {f : Nat → List Sect} {w w1 : World} {F F' : Nat → Prop} {s : Nat → Value} {X : Nat → List Value} (h : FilesAt ts f w F s X) (hts : ts ≠ 45) (hts2 : ts ≠ 5)
    {n base : Nat} (hn : n < 2) {v' u : Value} {l : List Nat} (ho : w1.ownsRow base ts 2 v' ((f n).length + 1) (X n ++ [u, .slice none 0 0])) (hg : w.grownBy w1 (s n).ownBlock) (hat : v'.ownBlock = (s n).ownBlock ∨ v'.ownBlock = some w.heap.size)
    (hu : Txt w1 F' u l) (hFF : ∀ b, F b → F' b) (hFn : v'.ownBlock = some w.heap.size → F' w.heap.size) :
    FilesAt ts (appF f n l) w1 F' (updV s n v') (updX X n (X n ++ [u, .slice none 0 0])) := by
  have hO : Only (fun b => (s n).ownBlock = some b) w w1 := Only.of_grown hg fun b e => .inl e
  obtain ⟨hrow, hFrow, hsec⟩ := h.file n hn
  have hXl : (X n).length = 2 * (f n).length := by have := hrow.1; omega
  have hnu : ∀ b, F b → U8 w b → ¬ (s n).ownBlock = some b := fun b _ hb e => hts2 ((own_ty hrow e).uniq hb)
  have hwk : ∀ (v : Value) (ws : List (List Nat)), IsWaits w F v ws → IsWaits w1 F' v ws := fun v ws q => (q.only hO hnu (by
    obtain ⟨L, q1, _⟩ := q
    exact fun b e e' => hts ((own_ty hrow e').uniq (own_ty q1 e)))).mono hFF
  have htk : ∀ (v : Value) (l : List Nat), Txt w F v l → Txt w1 F' v l := fun v l q => (q.only hO hnu).mono fun b z _ => hFF b z
  refine ⟨fun m hm => ?_, ?_, ?_⟩
  · by_cases e : m = n
    · subst e
      unfold appF updV updX
      rw [if_pos rfl, if_pos rfl, if_pos rfl]
      refine ⟨by rw [List.length_append]; exact own_base (Nat.zero_le _) ho, fun b e => ?_, fun i sc hi => ?_⟩
      · rcases hat with z | z
        · exact hFF b (hFrow b (z.symm.trans e))
        · have z' := z
          rw [z] at e
          injection e with e
          subst e
          exact hFn z'
      · rcases Nat.lt_trichotomy i (f m).length with q | q | q
        · rw [List.getElem?_append_left q] at hi
          obtain ⟨lv, wv, e1, e2, e3, e4⟩ := hsec i sc hi
          exact ⟨lv, wv, by rw [List.getElem?_append_left (by omega)]; exact e1, by rw [List.getElem?_append_left (by omega)]; exact e2, htk _ _ e3, hwk _ _ e4⟩
        · subst q
          rw [List.getElem?_append_right (Nat.le_refl _), Nat.sub_self] at hi
          injection hi with hi
          subst hi
          refine ⟨u, .slice none 0 0, ?_, ?_, hu, IsWaits.nil _ _⟩
          · rw [List.getElem?_append_right (by omega), hXl, Nat.sub_self]; rfl
          · rw [List.getElem?_append_right (by omega), hXl, Nat.add_sub_cancel_left]; rfl
        · rw [List.getElem?_eq_none (by simp; omega)] at hi
          cases hi
    · unfold appF updV updX
      rw [if_neg e, if_neg e, if_neg e]
      obtain ⟨h1, h2, h3⟩ := h.file m hm
      refine ⟨hO.own h1 fun b q q' => ?_, fun b q => hFF b (h2 b q), fun i sc hi => ?_⟩
      · have hd : (s m).ownBlock ≠ (s n).ownBlock := by
          have h0 := h.rows
          rcases (show (m = 0 ∧ n = 1) ∨ (m = 1 ∧ n = 0) from by omega) with ⟨rfl, rfl⟩ | ⟨rfl, rfl⟩
          · rcases h0 with z | z
            · rw [z] at q; cases q
            · exact z
          · rcases h0 with z | z
            · rw [z] at q'; cases q'
            · exact fun y => z y.symm
        exact hd (q.trans q'.symm)
      · obtain ⟨lv, wv, e1, e2, e3, e4⟩ := h3 i sc hi
        exact ⟨lv, wv, e1, e2, htk _ _ e3, hwk _ _ e4⟩
  · have hlt : ∀ j, j < 2 → ∀ b, (s j).ownBlock = some b → b < w.heap.size := fun j hj b e => ((h.file j hj).1.lt b e).2
    rcases (show n = 0 ∨ n = 1 from by omega) with rfl | rfl
    · show v'.ownBlock = none ∨ v'.ownBlock ≠ (s 1).ownBlock
      rcases hat with z | z
      · rw [z]; exact h.rows
      · right
        rw [z]
        intro e
        have := hlt 1 (by omega) _ e.symm
        omega
    · show (s 0).ownBlock = none ∨ (s 0).ownBlock ≠ v'.ownBlock
      rcases hat with z | z
      · rw [z]; exact h.rows
      · cases hs : (s 0).ownBlock with
        | none => exact .inl rfl
        | some b =>
          right
          rw [z]
          intro e
          injection e with e
          have := hlt 0 (by omega) b hs
          omega
  · intro j i j' i' a b hj hj' hne ha hb
    have key : ∀ j i a, j < 2 → (updX X n (X n ++ [u, .slice none 0 0]) j)[2 * i + 1]? = some a → a = .slice none 0 0 ∨ (X j)[2 * i + 1]? = some a := fun j i a hj hq => by
      unfold updX at hq
      by_cases e : j = n
      · subst e
        rw [if_pos rfl] at hq
        rcases Nat.lt_or_ge (2 * i + 1) (X j).length with q | q
        · rw [List.getElem?_append_left q] at hq
          exact .inr hq
        · rw [List.getElem?_append_right q] at hq
          have hi : i = (f j).length := by
            have := (List.getElem?_eq_some_iff.1 hq).1
            simp at this
            omega
          subst hi
          rw [hXl, Nat.add_sub_cancel_left] at hq
          injection hq with hq
          exact .inl hq.symm
      · rw [if_neg e] at hq
        exact .inr hq
    rcases key j i a hj ha with rfl | q1
    · exact .inl rfl
    · rcases key j' i' b hj' hb with rfl | q2
      · cases hx : a.ownBlock with
        | none => exact .inl rfl
        | some b => exact .inr (by simp [Value.ownBlock])
      · exact h.apart j i j' i' a b hj hj' hne q1 q2
theorem DevAt.growF {hal : Bool} {f : Nat → List Sect} {w w1 : World} {F F' : Nat → Prop} {gp : Nat} {s : Nat → Value} {lv : Value} {X : Nat → List Value} (h : DevAt ⟨f, none, hal⟩ w F gp s lv X)
    {n base : Nat} (hn : n < 2) {v' u : Value} {l : List Nat} (ho : w1.ownsRow base 71 2 v' ((f n).length + 1) (X n ++ [u, .slice none 0 0])) (hg : w.grownBy w1 (s n).ownBlock) (hat : v'.ownBlock = (s n).ownBlock ∨ v'.ownBlock = some w.heap.size)
    (hu : Txt w1 F' u l) (hFF : ∀ b, F b → F' b) (hFn : v'.ownBlock = some w.heap.size → F' w.heap.size) :
    DevAt ⟨appF f n l, none, hal⟩ (w1.setCell ⟨gp, n, none⟩ v') F' gp (updV s n v') lv (updX X n (X n ++ [u, .slice none 0 0])) := by
  have hO : Only (fun b => (s n).ownBlock = some b) w w1 := Only.of_grown hg fun b e => .inl e
  have hb := h.blk.only hO (fun q => absurd (h.blk.ty.uniq (own_ty (h.file n hn).1 q)) (by decide))
  have hfar : Far w1 71 (fun b => b = gp) := fun b q _ => by
    subst q
    exact ⟨_, hb.ty, by decide, by decide, by decide⟩
  have ho2 : Only (fun b => b = gp) w1 (w1.setCell ⟨gp, n, none⟩ v') := (Only.refl (fun b => b = gp) w1).setCell (p := ⟨gp, n, none⟩) (.inl rfl) _
  refine ⟨(h.toFilesAt.grow (by decide) (by decide) hn ho hg hat hu hFF hFn).far ho2 hfar, ?_, hFF _ h.inF, h.left⟩
  have := hb.set_ n v'
  rcases (show n = 0 ∨ n = 1 from by omega) with rfl | rfl
  · simpa [updV] using this
  · simpa [updV] using this
end Go.Proofs.YtkganajbilnanaaGreat
namespace Go.Proofs.YtkganajbilnanaaGreat
open Go.ChangeShapes Go.WideShapes Go.ChangeAt Go.RowKit
set_option maxRecDepth 20000
theorem rsector_info : (Tryz.prog.info? 126).map (fun i => (i.zero, i.size, i.bytes)) = some (some (.agg #[.slice none 0 0, .slice none 0 0]), 2, 48) := by kernel_rfl
def lastS (ls : List (List Nat)) : List Sect := ls.map fun l => ⟨l, []⟩
def okL (ls : List (List Nat)) : Prop := ∀ l ∈ ls, l.length = 128
def openP (la lb : List (List Nat)) : DevP := ⟨fun n => if n = 0 then lastS la else if n = 1 then lastS lb else [], none, false⟩
theorem lastS_next {ls : List (List Nat)} {k : Nat} (h : k < ls.length) : lastS (ls.take (k + 1)) = lastS (ls.take k) ++ [⟨ls[k], []⟩] := by
  unfold lastS
  rw [List.take_succ_eq_append_getElem h, List.map_append]
  rfl
theorem good_open {la lb : List (List Nat)} (ha : okL la) (hb : okL lb) (h1 : la.length ≤ 4096) (h2 : lb.length ≤ 4096) : (openP la lb).good 0 := fun n hn => by
  have key : ∀ ls, okL ls → ls.length ≤ 4096 → (lastS ls).length ≤ 4096 ∧ ∀ s ∈ lastS ls, s.last.length = 128 ∧ s.waits.length ≤ 0 ∧ ∀ l ∈ s.waits, l.length = 128 := fun ls h hl => by
    refine ⟨by unfold lastS; rw [List.length_map]; exact hl, fun s hs => ?_⟩
    obtain ⟨l, hl, rfl⟩ := List.mem_map.1 hs
    exact ⟨h l hl, Nat.le_refl _, fun x hx => by cases hx⟩
  rcases (show n = 0 ∨ n = 1 from by omega) with rfl | rfl
  · exact key la ha h1
  · exact key lb hb h2
structure RowS (ts : TypeId) (w : World) (base : Nat) (v : Value) (X : List Value) (ls : List (List Nat)) : Prop where
  own : w.ownsRow base ts 2 v ls.length X
  at_ : ∀ (i : Nat) (l : List Nat), ls[i]? = some l → ∃ u, X[2 * i]? = some u ∧ X[2 * i + 1]? = some (.slice none 0 0) ∧ Txt w (fun b => base ≤ b ∧ b < w.heap.size) u l
section
variable {ts : TypeId} {w w1 : World} {base : Nat} {v v' u : Value} {X : List Value} {ls : List (List Nat)} {l : List Nat}
theorem RowS.odd (h : RowS ts w base v X ls) {i : Nat} {u : Value} (e : X[2 * i + 1]? = some u) : u = .slice none 0 0 := by
  have hl := h.own.1
  have hi := (List.getElem?_eq_some_iff.1 e).1
  obtain ⟨_, _, e2, _⟩ := h.at_ i _ (List.getElem?_eq_getElem (show i < ls.length by omega))
  rw [e] at e2
  injection e2
theorem RowS.nil (ts : TypeId) (w : World) (base : Nat) : RowS ts w base (.slice none 0 0) [] [] := ⟨World.ownsRow_nil _ _ _ _, fun i l h => by simp at h⟩
theorem RowS.only {S : Nat → Prop} {w' : World} (h : RowS ts w base v X ls) (ho : Only S w w') (h1 : ∀ b, base ≤ b → b < w.heap.size → ¬ S b) : RowS ts w' base v X ls :=
  ⟨ho.own h.own fun b e => h1 b (h.own.lt b e).1 (h.own.lt b e).2, fun i l e => by
    obtain ⟨u, e1, e2, e3⟩ := h.at_ i l e
    exact ⟨u, e1, e2, (e3.only ho fun b z _ => h1 b z.1 z.2).mono fun b z _ => ⟨z.1, Nat.lt_of_lt_of_le z.2 ho.size⟩⟩⟩
theorem RowS.below {w' : World} (h : RowS ts w base v X ls) (hb : Below w.heap.size w w') : RowS ts w' base v X ls := h.only (Only.of_below hb (fun _ => False)) fun _ _ _ q => q
theorem RowS.snoc (h : RowS ts w base v X ls) (hts : ts ≠ 5) (ho : w1.ownsRow base ts 2 v' (ls.length + 1) (X ++ [u, .slice none 0 0])) (hg : w.grownBy w1 v.ownBlock) (hu : Txt w1 (fun b => base ≤ b ∧ b < w1.heap.size) u l) : RowS ts w1 base v' (X ++ [u, .slice none 0 0]) (ls ++ [l]) := by
  have hO : Only (fun b => v.ownBlock = some b) w w1 := Only.of_grown hg fun b e => .inl e
  have hXl : X.length = 2 * ls.length := by have := h.own.1; omega
  refine ⟨by rw [List.length_append]; exact ho, fun i m e => ?_⟩
  rcases Nat.lt_trichotomy i ls.length with q | q | q
  · rw [List.getElem?_append_left q] at e
    obtain ⟨t, e1, e2, e3⟩ := h.at_ i m e
    exact ⟨t, by rw [List.getElem?_append_left (by omega)]; exact e1, by rw [List.getElem?_append_left (by omega)]; exact e2, (e3.only hO fun b z hz e' => hts ((own_ty h.own e').uniq hz)).mono fun b z _ => ⟨z.1, Nat.lt_of_lt_of_le z.2 hO.size⟩⟩
  · subst q
    rw [List.getElem?_append_right (Nat.le_refl _), Nat.sub_self] at e
    injection e with e
    subst e
    exact ⟨u, by rw [List.getElem?_append_right (by omega), hXl, Nat.sub_self]; rfl, by rw [List.getElem?_append_right (by omega), hXl, Nat.add_sub_cancel_left]; rfl, hu⟩
  · rw [List.getElem?_eq_none (by simp; omega)] at e
    cases e
theorem RowS.file (h : RowS ts w base v X ls) {F : Nat → Prop} (hF : ∀ b, base ≤ b → b < w.heap.size → F b) : IsFile ts w F v X (lastS ls) := by
  refine ⟨by unfold lastS; rw [List.length_map]; exact own_base (Nat.zero_le _) h.own, fun b e => hF b (h.own.lt b e).1 (h.own.lt b e).2, fun i s e => ?_⟩
  unfold lastS at e
  rw [List.getElem?_map] at e
  cases hl : ls[i]? with
  | none => rw [hl] at e; cases e
  | some l =>
    rw [hl] at e
    injection e with e
    subst e
    obtain ⟨u, e1, e2, e3⟩ := h.at_ i l hl
    exact ⟨u, _, e1, e2, e3.mono fun b z _ => hF b z.1 z.2, IsWaits.nil _ _⟩
end
def SecPost (ls : List (List Nat)) (w : World) (e : Ending) (w' : World) : Prop := (∃ v X, (e = .returned (.tuple #[v, .bool true]) ∧ okL ls ∧ RowS 126 w' w.heap.size v X ls) ∨ (e = .returned (.tuple #[v, .bool false]) ∧ ¬ okL ls)) ∧ Below w.heap.size w w'
set_option maxHeartbeats 4000000 in
theorem rsectors_any (A : Option Addr) (c : Nat) (L : List Value) (ls : List (List Nat)) (B : Nat) (w : World) (h1 : At w B A L) (hr : Reads w B L ls) (hB : B ≤ w.heap.size) (hn : ls.length ≤ 4096) :
    Calls Tryz.prog 22 #[.slice A ls.length c] w (SecPost ls w) := by
  obtain ⟨is, his, hzs, hss, hbs⟩ := info_parts rsector_info
  have t1 : decide ((4096 : Int) < (ls.length : Int)) = false := by rw [decide_eq_false_iff_not]; omega
  go_enter Tryz.func22, Tryz.ntmps22
  go_wp2_with fail
  go_loopw [4, 5] (fun v i wr => ∃ (k : Nat) (X : List Value), k ≤ ls.length ∧ i = .int .i64 k ∧ okL (ls.take k) ∧ RowS 126 wr w.heap.size v X (ls.take k) ∧ Below w.heap.size w wr) (fun _ i _ => ls.length - (intOf i).toNat)
  case atStart => exact ⟨0, [], Nat.zero_le _, rfl, (fun l h => by simp at h), by rw [List.take_zero]; exact RowS.nil _ _ _, Below.refl _ _⟩
  case round =>
    obtain ⟨k, X, hk, rfl, hok, hrow, hb⟩ := hrel
    have hwr := hb.size
    have hown := hrow.own
    have htl : (ls.take k).length = k := by rw [List.length_take]; omega
    rw [htl] at hown
    obtain ⟨A0, c0, rfl, -, -⟩ := own_form hown
    rcases Nat.lt_or_ge k ls.length with hlt | hge
    · have e1 : decide ((k : Int) < (ls.length : Int)) = true := by rw [decide_eq_true_iff]; omega
      have e2 : (0 : Int) ≤ (k : Int) := by omega
      have e3 : (k : Int) < (ls.length : Int) := by omega
      obtain ⟨A1, c1, ev, -, b1⟩ := hr.2 k _ (List.getElem?_eq_getElem hlt)
      obtain ⟨b, o, rfl, hbB, q1⟩ := (h1.below (hb.mono hB)) k (by rw [hr.1]; exact hlt)
      rw [← List.getElem?_eq_getElem, ev] at q1
      have htk : ls.take (k + 1) = ls.take k ++ [ls[k]] := List.take_succ_eq_append_getElem hlt
      have hmem := List.getElem_mem hlt
      have b2 := b1.below (hb.mono hB)
      generalize ls[k] = x at *
      by_cases hx : x.length = 128
      · have hne : ((x.length : Int) != 128) = false := by rw [hx]; rfl
        have hcl := rlent_any A1 c1 x B wr b2 (by omega)
        have HTK := Lib.hid htk
        have hok' : okL (ls.take (k + 1)) := by
          rw [htk]
          intro l hl
          rcases List.mem_append.1 hl with z | z
          · exact hok l z
          · rw [List.mem_singleton.1 z]; exact hx
        have HX := Lib.hid hx
        have HOK := Lib.hid hok'
        have HTL := Lib.hid htl
        clear htk hr h1 ev b1 b2 hok hok' htl
        rw [hx] at q1 hcl
        clear hx hne
        have hne : ((128 : Int) != 128) = false := rfl
        go_wp2_with fail
        refine hcl.mono ?_
        rintro e w2 ⟨A2, c2, rfl, ho2, hb2, hs2⟩
        rw [HX.out] at ho2 ⊢
        have hw2 := hb2.size
        have a0 := (Below.refl w2.heap.size w2).alloc (Nat.le_refl _) (.cells #[.slice A2 128 c2, .slice none 0 0] 126)
        have hba := hb2.trans (a0.mono hw2)
        have hrow2 := hrow.below hba
        have hown2 := kept_below hba hown
        have ho2a := kept_below a0 ho2
        have nxt : ∀ (A5 : Option Addr) (c5 : Nat) (w5 : World), w5.ownsRow w.heap.size 126 2 (.slice A5 (k + 1) c5) (k + 1) (X ++ [.slice A2 128 c2, .slice none 0 0]) → (w2.alloc (.cells #[.slice A2 128 c2, .slice none 0 0] 126)).grownBy w5 (Value.slice A0 k c0).ownBlock →
            RowS 126 w5 w.heap.size (.slice A5 (k + 1) c5) (X ++ [.slice A2 128 c2, .slice none 0 0]) (ls.take (k + 1)) ∧ Below w.heap.size w w5 := fun A5 c5 w5 h5 g5 => by
          rw [HTK.out]
          have hbw := (hb.trans (hba.mono hwr)).grown g5 (Nat.le_trans hwr hba.size) (fun b e => (hown.lt b e).1)
          refine ⟨hrow2.snoc (by decide) (by rw [HTL.out]; exact h5) g5 ?_, hbw⟩
          have hO : Only (fun b => (Value.slice A0 k c0).ownBlock = some b) (w2.alloc (.cells #[.slice A2 128 c2, .slice none 0 0] 126)) w5 := Only.of_grown g5 fun b e => .inl e
          have t0 := Txt.own ho2a HX.out hs2 (F := fun b => wr.heap.size ≤ b ∧ b < (w2.alloc (.cells #[.slice A2 128 c2, .slice none 0 0] 126)).heap.size) fun b e => ho2a.lt b e
          exact (t0.only hO fun b _ hz e' => absurd ((own_ty hown2 e').uniq hz) (by decide)).mono fun b z _ => ⟨Nat.le_trans hwr z.1, Nat.lt_of_lt_of_le z.2 hO.size⟩
        have NXT := Lib.hid nxt
        have HO := Lib.hid hown2
        clear nxt hcl ho2 ho2a hrow hrow2 hown hown2 hba a0
        go_wp2_with (at_builtin; refine wpList_append_row rfl _ _ 72 rfl w.heap.size 126 is _ 2 48 Tryz.underlying72 his hzs hss hbs rfl (by decide) (.slice A0 k c0) k X rfl HO.out ⟨w2.heap.size, 0, none⟩ 1 1 [.slice A2 128 c2, .slice none 0 0] rfl rfl (new_cells w2 _ _ (0, 0)) (by simp [Value.oneCell']) (by unfold maxLen; omega) (by omega) (by rw [World.size_alloc]; omega) ?_; intro A5 c5 w5 ho5 hg5 hat5; have H5 := Lib.hid (NXT.out A5 c5 w5 ho5 hg5); clear ho5 hg5 hat5)
        go_roundw
        case rel => exact ⟨k + 1, _, by omega, by go_num, HOK.out, H5.out.1, H5.out.2⟩
        case measure => simp [intOf]; omega
      · have hne : ((x.length : Int) != 128) = true := by rw [bne_iff_ne]; omega
        have hfin : SecPost ls w (.returned (.tuple #[.slice A0 k c0, .bool false])) wr := ⟨⟨_, [], .inr ⟨rfl, fun h => hx (h x hmem)⟩⟩, hb⟩
        have HF := Lib.hid hfin
        clear hfin hr h1 ev b1 b2 hok hrow hown htk hx
        go_wp2
        go_ret2
        exact HF.out
    · obtain rfl : k = ls.length := by omega
      have e1 : decide ((ls.length : Int) < (ls.length : Int)) = false := by rw [decide_eq_false_iff_not]; omega
      rw [List.take_length] at hok hrow
      have hfin : SecPost ls w (.returned (.tuple #[.slice A0 ls.length c0, .bool true])) wr := ⟨⟨_, X, .inl ⟨rfl, hok, hrow⟩⟩, hb⟩
      have HF := Lib.hid hfin
      clear hfin hr h1 hok hrow hown
      go_wp2
      go_ret2
      exact HF.out
def ROpenPost (la lb : List (List Nat)) (w : World) (e : Ending) (w' : World) : Prop :=
  (okL la ∧ okL lb → ∃ p, e = .returned p ∧ IsRDev (openP la lb) w' (newB w w') p) ∧ (¬ (okL la ∧ okL lb) → e = .returned (.pointer none)) ∧ Below w.heap.size w w'
set_option maxHeartbeats 4000000 in
theorem ropen_any (A A' : Option Addr) (c c' : Nat) (L L' : List Value) (la lb : List (List Nat)) (B : Nat) (w : World) (h1 : At w B A L) (hr1 : Reads w B L la) (h2 : At w B A' L') (hr2 : Reads w B L' lb) (hB : B ≤ w.heap.size) (hn : la.length ≤ 4096) (hn2 : lb.length ≤ 4096) :
    Calls Tryz.prog 7 #[.slice A la.length c, .slice A' lb.length c'] w (ROpenPost la lb w) := by
  have c1 := rsectors_any A c L la B w h1 hr1 hB hn
  go_enter Tryz.func7, Tryz.ntmps7
  go_wp2_with fail
  refine c1.mono ?_
  rintro e w1 ⟨⟨v, X, hv⟩, b1⟩
  have c2 := rsectors_any A' c' L' lb B w1 (h2.below (b1.mono hB)) (hr2.below (b1.mono hB)) (Nat.le_trans hB b1.size) hn2
  clear c1 h1 hr1 h2 hr2
  have NO : ∀ w', ¬ (okL la ∧ okL lb) → Below w.heap.size w w' → ROpenPost la lb w (.returned (.pointer none)) w' := fun w' h hb => ⟨fun z => absurd z h, fun _ => rfl, hb⟩
  have hw1 := b1.size
  rcases hv with ⟨rfl, hok, hrow⟩ | ⟨rfl, hno⟩
  · go_wp2_with fail
    refine c2.mono ?_
    rintro e w2 ⟨⟨v2, X2, hv⟩, b2⟩
    clear c2
    have hb2 := b1.trans (b2.mono hw1)
    have hw2 := b2.size
    rcases hv with ⟨rfl, hok2, hrow2⟩ | ⟨rfl, hno⟩
    · have hrw := hrow.below b2
      have k0 := Blk.new w2 77 #[.slice none 0 0, .slice none 0 0, .bool false, .int .i64 0, .bool false]
      have a0 := (Below.refl w2.heap.size w2).alloc (Nat.le_refl _) (.cells #[.slice none 0 0, .slice none 0 0, .bool false, .int .i64 0, .bool false] 77)
      have hra := hrw.below a0
      have hra2 := hrow2.below a0
      obtain ⟨A3, c3, rfl, -, -⟩ := own_form hrow.own
      obtain ⟨A4, c4, rfl, -, -⟩ := own_form hrow2.own
      generalize hwa : w2.alloc (.cells #[.slice none 0 0, .slice none 0 0, .bool false, .int .i64 0, .bool false] 77) = wa at *
      have hsa : wa.heap.size = w2.heap.size + 1 := by rw [← hwa]; simp
      have k2 := (k0.set_ 0 (.slice A3 la.length c3)).set_ 1 (.slice A4 lb.length c4)
      simp only [List.setIfInBounds_toArray, List.set_cons_succ, List.set_cons_zero] at k2
      have hO : Only (fun b => b = w2.heap.size) wa ((wa.setCell ⟨w2.heap.size, 0, none⟩ (.slice A3 la.length c3)).setCell ⟨w2.heap.size, 1, none⟩ (.slice A4 lb.length c4)) := ((Only.refl (fun b => b = w2.heap.size) wa).setCell (p := ⟨w2.heap.size, 0, none⟩) (.inl rfl) _).setCell (p := ⟨w2.heap.size, 1, none⟩) (.inl rfl) _
      have hsz : ((wa.setCell ⟨w2.heap.size, 0, none⟩ (.slice A3 la.length c3)).setCell ⟨w2.heap.size, 1, none⟩ (.slice A4 lb.length c4)).heap.size = wa.heap.size := by simp [World.setCell]
      have hfar : Far wa 126 (fun b => b = w2.heap.size) := fun b q _ => by
        subst q
        exact ⟨_, k0.ty, by decide, by decide, by decide⟩
      have hfa : FilesAt 126 (openP la lb).f wa (newB w wa) (fun m => if m = 0 then .slice A3 la.length c3 else .slice A4 lb.length c4) (fun m => if m = 0 then X else X2) := by
        refine ⟨fun n hn => ?_, ?_, fun f i g j u v hf hg _ hu hv => ?_⟩
        · rcases (show n = 0 ∨ n = 1 from by omega) with rfl | rfl
          · exact hra.file fun b z1 z2 => ⟨z1, z2⟩
          · exact hra2.file fun b z1 z2 => ⟨Nat.le_trans hw1 z1, z2⟩
        · show (Value.slice A3 la.length c3).ownBlock = none ∨ (Value.slice A3 la.length c3).ownBlock ≠ (Value.slice A4 lb.length c4).ownBlock
          cases e1 : (Value.slice A3 la.length c3).ownBlock with
          | none => exact .inl rfl
          | some b =>
            right
            intro e2
            have q1 := (hrow.own.lt b e1).2
            have q2 := (hrow2.own.lt b e2.symm).1
            omega
        · left
          rcases (show f = 0 ∨ f = 1 from by omega) with rfl | rfl
          · rw [hra.odd hu]; rfl
          · rw [hra2.odd hu]; rfl
      have hdev : IsRDev (openP la lb) ((wa.setCell ⟨w2.heap.size, 0, none⟩ (.slice A3 la.length c3)).setCell ⟨w2.heap.size, 1, none⟩ (.slice A4 lb.length c4)) (newB w ((wa.setCell ⟨w2.heap.size, 0, none⟩ (.slice A3 la.length c3)).setCell ⟨w2.heap.size, 1, none⟩ (.slice A4 lb.length c4))) (.pointer (some ⟨w2.heap.size, 0, none⟩)) := by
        refine ⟨w2.heap.size, _, 0, _, rfl, ⟨(hfa.far hO hfar).mono fun b z => ⟨z.1, by rw [hsz]; exact z.2⟩, k2, ⟨hb2.size, by rw [hsz]; omega⟩, fun n e => by cases e⟩⟩
      have hfin : ROpenPost la lb w (.returned (.pointer (some ⟨w2.heap.size, 0, none⟩))) ((wa.setCell ⟨w2.heap.size, 0, none⟩ (.slice A3 la.length c3)).setCell ⟨w2.heap.size, 1, none⟩ (.slice A4 lb.length c4)) :=
        ⟨fun _ => ⟨_, rfl, hdev⟩, fun z => absurd ⟨hok, hok2⟩ z, ((hb2.trans (a0.mono hb2.size)).setCell (p := ⟨w2.heap.size, 0, none⟩) (by exact hb2.size) _).setCell (p := ⟨w2.heap.size, 1, none⟩) (by exact hb2.size) _⟩
      have HF := Lib.hid hfin
      have g0 := k0.frozen 0
      have g1 := k0.frozen 1
      have y0 := k0.cell 0
      have y1 := k0.cell 1
      clear hfin hdev hfa hfar hO k2 hra hra2 hrow hrow2 hrw NO hok hok2 k0
      go_wp2
      go_ret
      exact HF.out
    · have HN := Lib.hid (NO w2 (fun z => hno z.2) hb2)
      clear NO hno hrow hok
      go_wp2
      go_ret
      exact HN.out
  · go_wp2_with fail
    refine c2.mono ?_
    rintro e w2 ⟨⟨v2, X2, hv⟩, b2⟩
    have HN := Lib.hid (NO w2 (fun z => hno z.1) (b1.trans (b2.mono hw1)))
    clear c2 NO hno b1 b2
    rcases hv with ⟨rfl, -, -⟩ | ⟨rfl, -⟩
    all_goals
      go_wp2
      go_ret
      exact HN.out
def selL (la lb : List (List Nat)) (n : Nat) : List (List Nat) := if n = 0 then la else lb
def openF (la lb : List (List Nat)) (q k m : Nat) : List Sect := if m < q then lastS (selL la lb m) else if m = q then lastS ((selL la lb q).take k) else []
theorem openF_next (la lb : List (List Nat)) (q k : Nat) (hk : k < (selL la lb q).length) : appF (openF la lb q k) q ((selL la lb q)[k]) = openF la lb q (k + 1) := by
  funext m
  unfold appF openF
  by_cases e : m = q
  · subst e
    rw [if_pos rfl, if_neg (by omega), if_pos rfl, if_neg (by omega), if_pos rfl, lastS_next hk]
  · rw [if_neg e, if_neg e, if_neg e]
theorem openF_end (la lb : List (List Nat)) (q : Nat) : openF la lb q (selL la lb q).length = openF la lb (q + 1) 0 := by
  funext m
  unfold openF
  rw [List.take_length]
  by_cases e : m = q
  · subst e
    rw [if_neg (by omega), if_pos rfl, if_pos (by omega)]
  · by_cases h : m < q
    · rw [if_pos h, if_pos (by omega)]
    · rw [if_neg h, if_neg e, if_neg (by omega)]
      split
      · rw [List.take_zero]; rfl
      · rfl
theorem openF_len (la lb : List (List Nat)) (q k : Nat) (hk : k ≤ (selL la lb q).length) : (openF la lb q k q).length = k := by
  unfold openF
  rw [if_neg (by omega), if_pos rfl]
  unfold lastS
  rw [List.length_map, List.length_take]
  omega
theorem dopen_ready {f : Nat → List Sect} {q k : Nat} (hq : q < 2) (hk : (f q).length = k) {w wr : World} {s : Nat → Value} {X : Nat → List Value} (hd : DevAt ⟨f, none, false⟩ wr (newB w wr) w.heap.size s (.pointer none) X) (hb : Below w.heap.size w wr) :
    ∃ A c, wr.cell? ⟨w.heap.size, q, none⟩ = some (.slice A k c) ∧
      ∀ (wc : World) (Ac : Option Addr) (cc : Nat) (l : List Nat), Below wr.heap.size wr wc → wc.ownsRow wr.heap.size 5 1 (.slice Ac 128 cc) 128 (l.map byteV) → l.length = 128 → Small l →
        (wc.alloc (.cells #[.slice Ac 128 cc, .slice none 0 0] 71)).ownsRow 0 71 2 (.slice A k c) k (X q) ∧
        ∀ (w5 : World) (A' : Option Addr) (c' : Nat), w5.ownsRow 0 71 2 (.slice A' (k + 1) c') (k + 1) (X q ++ [.slice Ac 128 cc, .slice none 0 0]) →
          (wc.alloc (.cells #[.slice Ac 128 cc, .slice none 0 0] 71)).grownBy w5 (Value.slice A k c).ownBlock →
          ((Value.slice A' (k + 1) c').ownBlock = (Value.slice A k c).ownBlock ∨ (Value.slice A' (k + 1) c').ownBlock = some (wc.alloc (.cells #[.slice Ac 128 cc, .slice none 0 0] 71)).heap.size) →
          (∃ s' X', DevAt ⟨appF f q l, none, false⟩ (w5.setCell ⟨w.heap.size, q, none⟩ (.slice A' (k + 1) c')) (newB w (w5.setCell ⟨w.heap.size, q, none⟩ (.slice A' (k + 1) c'))) w.heap.size s' (.pointer none) X') ∧
          Below w.heap.size w (w5.setCell ⟨w.heap.size, q, none⟩ (.slice A' (k + 1) c')) ∧ w5.frozen? ⟨w.heap.size, q, none⟩ = false ∧ ∃ v, w5.cell? ⟨w.heap.size, q, none⟩ = some v := by
  have hwr := hb.size
  have hrow := (hd.file q hq).1
  rw [show (DevP.f ⟨f, none, false⟩ q).length = k from hk] at hrow
  obtain ⟨A, c, es, -, -⟩ := own_form hrow
  have c0 : wr.cell? ⟨w.heap.size, q, none⟩ = some (s q) := by
    refine (hd.blk.cell q).trans ?_
    rcases (show q = 0 ∨ q = 1 from by omega) with rfl | rfl <;> rfl
  rw [es] at c0 hrow
  refine ⟨A, c, c0, fun wc Ac cc l hbc hoc h128 hs => ?_⟩
  have hwc := hbc.size
  have a0 := (Below.refl wc.heap.size wc).alloc (Nat.le_refl _) (.cells #[.slice Ac 128 cc, .slice none 0 0] 71)
  have hba := hbc.trans (a0.mono hwc)
  have hoa := kept_below a0 hoc
  refine ⟨kept_below hba hrow, fun w5 A' c' ho hg hat => ?_⟩
  subst hk
  rw [← es] at hg hat
  generalize hwa : wc.alloc (.cells #[.slice Ac 128 cc, .slice none 0 0] 71) = wa at *
  have hsa : wa.heap.size = wc.heap.size + 1 := by rw [← hwa]; simp
  have hs5 := hg.size
  have hda := hd.grown (F' := newB w wr) hba fun b z => z
  have hbst : ∀ v, (w5.setCell ⟨w.heap.size, q, none⟩ v).heap.size = w5.heap.size := fun v => by simp [World.setCell]
  have hO : Only (fun b => (s q).ownBlock = some b) wa w5 := Only.of_grown hg fun b e => .inl e
  have hna : ∀ b, U8 wa b → ¬ (s q).ownBlock = some b := fun b z e => absurd ((own_ty (hda.file q hq).1 e).uniq z) (by decide)
  have htx : Txt w5 (newB w w5) (.slice Ac 128 cc) l := by
    have t0 : Txt wa (fun b => wr.heap.size ≤ b ∧ b < wa.heap.size) (.slice Ac 128 cc) l := Txt.own hoa h128 hs fun b e => hoa.lt b e
    refine (t0.only hO fun b _ z => hna b z).mono fun b e _ => ?_
    exact ⟨Nat.le_trans hwr e.1, by have := e.2; omega⟩
  have hgrow := DevAt.growF (F' := newB w w5) hda hq ho hg hat htx (fun b z => ⟨z.1, by have := z.2; omega⟩) (fun z => ⟨by omega, (ho.lt _ z).2⟩)
  have hbk := hda.blk.only hO (fun z => absurd (hda.blk.ty.uniq (own_ty (hda.file q hq).1 z)) (by decide))
  refine ⟨⟨_, _, by unfold newB at *; rw [hbst]; exact hgrow⟩, ?_, hbk.frozen q, ?_⟩
  · have hb5 : Below w.heap.size w w5 := (hb.trans (hba.mono hwr)).grown hg (by omega) (fun k e => (hda.file q hq).2.1 k e |>.1)
    exact hb5.setCell (p := ⟨w.heap.size, q, none⟩) (by exact Nat.le_refl _) _
  · rcases (show q = 0 ∨ q = 1 from by omega) with rfl | rfl
    · exact ⟨_, hbk.cell 0⟩
    · exact ⟨_, hbk.cell 1⟩
def DOpenPost (la lb : List (List Nat)) (w : World) (e : Ending) (w' : World) : Prop :=
  (okL la ∧ okL lb → ∃ p, e = .returned p ∧ IsDev (openP la lb) w' (newB w w') p) ∧ (¬ (okL la ∧ okL lb) → e = .returned (.pointer none)) ∧ Below w.heap.size w w'
theorem idx_run2 (u v : Value) (q : Nat) (hq : q < 2) (W : World) : (Instr.index 68 (.agg #[u, v]) (.int .i64 (q : Int))).run Tryz.prog W = .ok (if q = 0 then u else v) W := by
  rcases (show q = 0 ∨ q = 1 from by omega) with rfl | rfl
  · rfl
  · rfl
set_option maxHeartbeats 8000000 in
theorem dopen_any (A A' : Option Addr) (c c' : Nat) (L L' : List Value) (la lb : List (List Nat)) (B : Nat) (w : World) (h1 : At w B A L) (hr1 : Reads w B L la) (h2 : At w B A' L') (hr2 : Reads w B L' lb) (hB : B ≤ w.heap.size) (hn : la.length ≤ 4096) (hn2 : lb.length ≤ 4096) :
    Calls Tryz.prog 6 #[.slice A la.length c, .slice A' lb.length c'] w (DOpenPost la lb w) := by
  obtain ⟨is, his, hzs, hss, hbs⟩ := info_parts sector_info
  have hsel : ∀ q, q < 2 → ∃ Aq cq Lq, (if q = 0 then Value.slice A la.length c else .slice A' lb.length c') = .slice Aq (selL la lb q).length cq ∧ At w B Aq Lq ∧ Reads w B Lq (selL la lb q) ∧ (selL la lb q).length ≤ 4096 := fun q hq => by
    rcases (show q = 0 ∨ q = 1 from by omega) with rfl | rfl
    · exact ⟨A, c, L, rfl, h1, hr1, hn⟩
    · exact ⟨A', c', L', rfl, h2, hr2, hn2⟩
  have HSEL := Lib.hid hsel
  have HIDX := Lib.hid (idx_run2 (.slice A la.length c) (.slice A' lb.length c'))
  clear hsel h1 hr1 h2 hr2
  have hno : ∀ q, q < 2 → ¬ okL (selL la lb q) → ¬ (okL la ∧ okL lb) := fun q hq h z => by
    rcases (show q = 0 ∨ q = 1 from by omega) with rfl | rfl
    · exact h z.1
    · exact h z.2
  have HNO := Lib.hid hno
  clear hno
  have hst : DevAt ⟨openF la lb 0 0, none, false⟩ (w.alloc (.cells #[.slice none 0 0, .slice none 0 0, .pointer none, .bool false] 67)) (newB w (w.alloc (.cells #[.slice none 0 0, .slice none 0 0, .pointer none, .bool false] 67))) w.heap.size (fun _ => .slice none 0 0) (.pointer none) (fun _ => []) := by
    have hz : ∀ n, openF la lb 0 0 n = [] := fun n => by
      unfold openF
      rw [if_neg (by omega)]
      split
      · rw [List.take_zero]; rfl
      · rfl
    refine ⟨⟨fun n hn => ⟨?_, (fun b e => by cases e), fun i s e => ?_⟩, .inl rfl, fun f i g j u v _ _ _ hu => by cases hu⟩, Blk.new _ _ _, ⟨Nat.le_refl _, by simp⟩, rfl⟩
    · show World.ownsRow _ _ _ _ _ (openF la lb 0 0 n).length _
      rw [hz n]
      exact World.ownsRow_nil _ _ _ _
    · have e' : (openF la lb 0 0 n)[i]? = some s := e
      rw [hz n] at e'
      cases e'
  have hbst : Below w.heap.size w (w.alloc (.cells #[.slice none 0 0, .slice none 0 0, .pointer none, .bool false] 67)) := (Below.refl _ _).alloc (Nat.le_refl _) _
  go_enter Tryz.func6, Tryz.ntmps6
  go_wp2_with fail
  go_loopw [15, 6, 7, 9] (fun i _ _ _ wr => ∃ q : Nat, q ≤ 2 ∧ i = .int .i64 q ∧ (∀ m, m < q → okL (selL la lb m)) ∧ (∃ s X, DevAt ⟨openF la lb q 0, none, false⟩ wr (newB w wr) w.heap.size s (.pointer none) X) ∧ Below w.heap.size w wr) (fun i _ _ _ _ => 2 - (intOf i).toNat)
  case atStart => exact ⟨0, by omega, rfl, (fun m h => absurd h (by omega)), ⟨_, _, hst⟩, hbst⟩
  case round =>
    clear hst hbst
    obtain ⟨q, hq, rfl, hokq, ⟨s, X, hd⟩, hb⟩ := hrel
    rcases Nat.lt_or_ge q 2 with hlt | hge
    · have e1 : decide ((q : Int) < 2) = true := by rw [decide_eq_true_iff]; omega
      have e2 : (0 : Int) ≤ (q : Int) := by omega
      have e3 : (q : Int) < 2 := by omega
      have hi := HIDX.out q hlt
      obtain ⟨Aq, cq, Lq, hse, hAt, hRd, hle⟩ := HSEL.out q hlt
      rw [hse] at hi
      have hend := openF_end la lb q
      have hnxt := openF_next la lb q
      have hlen := openF_len la lb q
      have hnoq := HNO.out q hlt
      have HQ := Lib.hid (And.intro hend (And.intro hnxt (And.intro hlen (And.intro hnoq hokq))))
      clear hse hend hnxt hlen hnoq hokq
      obtain ⟨ls, hls⟩ : ∃ ls, selL la lb q = ls := ⟨_, rfl⟩
      have t1 : decide ((4096 : Int) < (ls.length : Int)) = false := by rw [decide_eq_false_iff_not, ← hls]; omega
      rw [hls] at hi hRd hle HQ
      have HLS := Lib.hid hls
      clear hls
      go_wp2_with fail
      go_loopw [24, 9] (fun i _ wr => ∃ k : Nat, k ≤ ls.length ∧ i = .int .i64 k ∧ okL (ls.take k) ∧ (∃ s X, DevAt ⟨openF la lb q k, none, false⟩ wr (newB w wr) w.heap.size s (.pointer none) X) ∧ Below w.heap.size w wr) (fun i _ _ => ls.length - (intOf i).toNat)
      case atStart => exact ⟨0, Nat.zero_le _, rfl, (fun l h => by simp at h), ⟨_, _, hd⟩, hb⟩
      case round =>
        clear hd hb
        obtain ⟨k, hk, rfl, hok, ⟨s, X, hd⟩, hb⟩ := hrel
        have hwr := hb.size
        rcases Nat.lt_or_ge k ls.length with hlt2 | hge2
        · have e4 : decide ((k : Int) < (ls.length : Int)) = true := by rw [decide_eq_true_iff]; omega
          have e5 : (0 : Int) ≤ (k : Int) := by omega
          have e6 : (k : Int) < (ls.length : Int) := by omega
          obtain ⟨A1, c1, ev, -, b1⟩ := hRd.2 k _ (List.getElem?_eq_getElem hlt2)
          obtain ⟨b, o, rfl, hbB, q1⟩ := (hAt.below (hb.mono hB)) k (by rw [hRd.1]; exact hlt2)
          rw [← List.getElem?_eq_getElem, ev] at q1
          have htk : ls.take (k + 1) = ls.take k ++ [ls[k]] := List.take_succ_eq_append_getElem hlt2
          have hmem := List.getElem_mem hlt2
          have hap : appF (openF la lb q k) q ls[k] = openF la lb q (k + 1) := by
            have := HQ.out.2.1 k hlt2
            exact this
          have b2 := b1.below (hb.mono hB)
          generalize ls[k] = x at *
          by_cases hx : x.length = 128
          · obtain ⟨Ag, cg, c0, hready⟩ := dopen_ready hlt (HQ.out.2.2.1 k hk) hd hb
            have hok' : okL (ls.take (k + 1)) := by
              rw [htk]
              intro l hl
              rcases List.mem_append.1 hl with z | z
              · exact hok l z
              · rw [List.mem_singleton.1 z]; exact hx
            have hcl : Calls Tryz.prog 21 #[.slice A1 128 c1] wr.drew (RetBytes 5 x wr.drew) := by
              have := clone_any A1 c1 x B wr.drew (b2.below ((Below.refl _ _).drew)) (Nat.le_trans hB hwr) (by omega)
              rw [hx] at this
              exact this
            have hready2 := fun wc Ac cc z1 z2 z3 => hready wc Ac cc x z1 z2 hx z3
            rw [hap] at hready2
            have HR := Lib.hid hready2
            clear hready2
            have HOK := Lib.hid hok'
            have HX := Lib.hid hx
            have hgpl := hd.blk.lt
            rw [hx] at q1
            clear hready hok' hd htk hap ev b1 b2 hok hx hi hAt hRd hmem
            have hne : ((128 : Int) != 128) = false := rfl
            go_wp2_with fail
            go_region_law
              (first
                | (go_simp; go_at_call 21; refine hcl.mono ?_; intro e wc hret; obtain ⟨Ac, cc, rfl, hc1, hb1, hs1⟩ := hret; rw [HX.out] at hc1 ⊢; have hbw : Below wr.heap.size wr wc := (below_drew0 wr).trans hb1; have hzc := hbw.size; have qc : wc.cell? ⟨w.heap.size, q, none⟩ = some (.slice Ag k cg) := (hbw.cell (p := ⟨w.heap.size, q, none⟩) hgpl).trans c0; have qa : ∀ o, (wc.alloc o).cell? ⟨w.heap.size, q, none⟩ = some (.slice Ag k cg) := fun o => (((Below.refl wc.heap.size wc).alloc (Nat.le_refl _) o).cell (p := ⟨w.heap.size, q, none⟩) (Nat.lt_of_lt_of_le hgpl hzc)).trans qc; have HRC := Lib.hid (HR.out wc Ac cc hbw hc1 hs1); clear hc1)
                | (refine step_append_row (by rfl) _ _ 62 (by rfl) 0 71 is _ 2 48 Tryz.underlying62 his hzs hss hbs rfl (by decide) (.slice Ag k cg) k (X q) (by rfl) HRC.out.1 ⟨wc.heap.size, 0, none⟩ 1 1 [.slice Ac 128 cc, .slice none 0 0] (by rfl) rfl (new_cells wc _ _ (0, 0)) (by simp [Value.oneCell']) (by unfold maxLen; omega) (by omega) (Nat.zero_le _) ?_; intro A5 c5 w5 ho5 hg5 hat5; have h5 := HRC.out.2 w5 A5 c5 ho5 hg5 hat5; have f5 := h5.2.2.1; obtain ⟨v5, cc5⟩ := h5.2.2.2; have H5 := Lib.hid h5; clear ho5 hg5 hat5 h5)
                | fail)
            all_goals
              go_wp2
              go_roundw
              case rel => exact ⟨k + 1, by omega, by go_num, HOK.out, H5.out.1, H5.out.2.1⟩
              case measure => simp [intOf]; omega
          · have hne : ((x.length : Int) != 128) = true := by rw [bne_iff_ne]; omega
            have hfin : DOpenPost la lb w (.returned (.pointer none)) wr := ⟨fun z => absurd z (HQ.out.2.2.2.1 fun h => hx (h x hmem)), fun _ => rfl, hb⟩
            have HF := Lib.hid hfin
            clear hfin hd hap htk ev b1 b2 hok hx hi hAt hRd hmem
            go_wp2
            go_ret
            exact HF.out
        · obtain rfl : k = ls.length := by omega
          have e4 : decide ((ls.length : Int) < (ls.length : Int)) = false := by rw [decide_eq_false_iff_not]; omega
          rw [List.take_length] at hok
          rw [HQ.out.1] at hd
          have hokn : ∀ m, m < q + 1 → okL (selL la lb m) := fun m hm => by
            rcases Nat.lt_or_ge m q with z | z
            · exact HQ.out.2.2.2.2 m z
            · obtain rfl : m = q := by omega
              rw [HLS.out]
              exact hok
          have HD := Lib.hid (And.intro hd (And.intro hb hokn))
          clear hd hb hok hokn hi hAt hRd
          go_wp2
          go_roundw
          case rel => exact ⟨q + 1, by omega, by go_num, HD.out.2.2, ⟨s, X, HD.out.1⟩, HD.out.2.1⟩
          case measure => simp [intOf]; omega
    · obtain rfl : q = 2 := by omega
      have hfin : DOpenPost la lb w (.returned (.pointer (some ⟨w.heap.size, 0, none⟩))) wr := by
        refine ⟨fun _ => ⟨_, rfl, ⟨w.heap.size, s, .pointer none, X, rfl, ?_⟩⟩, fun h => absurd ⟨hokq 0 (by omega), hokq 1 (by omega)⟩ h, hb⟩
        have e : ∀ n, n < 2 → openF la lb 2 0 n = (openP la lb).f n := fun n hn => by
          unfold openF
          rw [if_pos hn]
          rcases (show n = 0 ∨ n = 1 from by omega) with rfl | rfl <;> rfl
        refine ⟨⟨fun n hn => ?_, hd.rows, hd.apart⟩, hd.blk, hd.inF, hd.left⟩
        rw [← e n hn]
        exact hd.file n hn
      have HF := Lib.hid hfin
      clear hfin hd hokq HIDX HSEL HNO
      go_wp2
      go_ret
      exact HF.out
end Go.Proofs.YtkganajbilnanaaGreat
