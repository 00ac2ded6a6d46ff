/- A page in memory: 448 bytes in one block; copy and clear there. Conditions: as stated. -/
import Derived.Test.YtkknfccfgmflmaaNum
import Derived.Test.YtkknfccfgmflmaaCopy
import Derived.Test.YtkknfccfgmflmaaClone
import Derived.Test.YtkknfccfgmflmaaBrows
namespace Go.Proofs.Ytkknfccfgmflmaa
open Go.ChangeShapes Go.WideShapes Go.ChangeAt Go.RowKit
open NumMath
set_option linter.unusedVariables false
set_option linter.unusedSimpArgs false
set_option maxRecDepth 20000

theorem below_drew0 (w : World) : Below w.heap.size w w.drew := (Below.refl _ _).drew
theorem kept_below {w w' : World} (h : Below w.heap.size w w') {base : Nat} {e : TypeId} {s : Nat} {v : Value} {n : Nat} {xs : List Value} (ho : w.ownsRow base e s v n xs) : w'.ownsRow base e s v n xs := kept_none (below_none h) ho
def pgL (f : Nat → Nat) : List Nat := (List.range 448).map f
def upd (f : Nat → Nat) (at_ : Nat) (l : List Nat) : Nat → Nat := fun i => if at_ ≤ i ∧ i < at_ + l.length then l[i - at_]?.getD 0 else f i
def cut (f : Nat → Nat) (a n : Nat) : List Nat := (List.range n).map fun i => f (a + i)
theorem pgL_length (f : Nat → Nat) : (pgL f).length = 448 := by simp [pgL]
theorem cut_length (f : Nat → Nat) (a n : Nat) : (cut f a n).length = n := by simp [cut]
theorem cut_small {f : Nat → Nat} (h : ∀ i, f i < 256) (a n : Nat) : Small (cut f a n) := fun x hx => by
  obtain ⟨i, _, rfl⟩ := List.mem_map.1 hx
  exact h _
theorem pgL_small {f : Nat → Nat} (h : ∀ i, f i < 256) : Small (pgL f) := fun x hx => by
  obtain ⟨i, _, rfl⟩ := List.mem_map.1 hx
  exact h _
theorem upd_nil (f : Nat → Nat) (a : Nat) : upd f a [] = f := by
  funext i
  exact if_neg (by simp)
theorem upd_small {f : Nat → Nat} (h : ∀ i, f i < 256) (a : Nat) {l : List Nat} (hl : Small l) (i : Nat) : upd f a l i < 256 := by
  unfold upd
  split
  · rw [List.getElem?_eq_getElem (by omega)]
    exact hl _ (List.getElem_mem _)
  · exact h i
theorem pgL_get (f : Nat → Nat) (i : Nat) : (pgL f)[i]? = if i < 448 then some (f i) else none := by
  unfold pgL
  rw [List.getElem?_map]
  split
  · rename_i h
    rw [List.getElem?_range h]
    rfl
  · rename_i h
    rw [List.getElem?_eq_none (by simp; omega)]
    rfl
theorem pgL_upd (f : Nat → Nat) {a : Nat} {l : List Nat} (h : a + l.length ≤ 448) : (pgL f).take a ++ l ++ (pgL f).drop (a + l.length) = pgL (upd f a l) := by
  have hl : ((pgL f).take a).length = a := by rw [List.length_take, pgL_length]; omega
  apply List.ext_getElem?
  intro i
  rw [pgL_get, List.append_assoc]
  unfold upd
  rcases Nat.lt_or_ge i a with q | q
  · rw [List.getElem?_append_left (by omega), List.getElem?_take, if_pos q, pgL_get, if_pos (show i < 448 by omega), if_pos (show i < 448 by omega), if_neg (show ¬ (a ≤ i ∧ i < a + l.length) by omega)]
  · rw [List.getElem?_append_right (by omega), hl]
    rcases Nat.lt_or_ge i (a + l.length) with q2 | q2
    · rw [List.getElem?_append_left (by omega), if_pos (show i < 448 by omega), if_pos (show a ≤ i ∧ i < a + l.length from ⟨q, q2⟩), List.getElem?_eq_getElem (by omega)]
      rfl
    · rw [List.getElem?_append_right (by omega), List.getElem?_drop, show a + l.length + (i - a - l.length) = i by omega, pgL_get]
      rw [show (if a ≤ i ∧ i < a + l.length then l[i - a]?.getD 0 else f i) = f i from if_neg (by omega)]
theorem upd_zero (f : Nat → Nat) (a n : Nat) (i : Nat) : upd f a (List.replicate n 0) i = if a ≤ i ∧ i < a + n then 0 else f i := by
  unfold upd
  rw [List.length_replicate]
  split
  · rw [List.getElem?_replicate]
    split <;> rfl
  · rfl
structure PgAt (w : World) (gp : Nat) (f : Nat → Nat) : Prop where
  blk : Blk w gp 67 ((pgL f).map byteV).toArray
  small : ∀ i, f i < 256
section
variable {w w' : World} {gp : Nat} {f : Nat → Nat} {S : Nat → Prop}
theorem PgAt.lt (h : PgAt w gp f) : gp < w.heap.size := h.blk.lt
theorem PgAt.only (h : PgAt w gp f) (ho : Only S w w') (hs : ¬ S gp) : PgAt w' gp f := ⟨h.blk.only ho hs, h.small⟩
theorem PgAt.below (h : PgAt w gp f) (hb : Below w.heap.size w w') : PgAt w' gp f := ⟨h.blk.below hb h.lt, h.small⟩
theorem PgAt.bytes (h : PgAt w gp f) {a n : Nat} (hn : a + n ≤ 448) : Bytes w w.heap.size (some ⟨gp, a, none⟩) (cut f a n) := by
  refine ⟨fun j hj => ?_, cut_small h.small a n⟩
  rw [List.length_map, cut_length] at hj
  refine ⟨gp, a, rfl, h.lt, ?_⟩
  rw [h.blk.cell (a + j)]
  simp [pgL, cut, byteV, List.getElem?_range, show a + j < 448 by omega]
end
/-- what a writing function leaves: the page anew, nothing else of what was there changed -/
def PgPost (gp : Nat) (f : Nat → Nat) (w w' : World) : Prop := PgAt w' gp f ∧ Only (fun b => b = gp) w w'
theorem PgPost.refl {w : World} {gp : Nat} {f : Nat → Nat} (h : PgAt w gp f) : PgPost gp f w w := ⟨h, Only.refl _ _⟩
theorem PgPost.trans {w w1 w2 : World} {gp : Nat} {f g : Nat → Nat} (h : PgPost gp f w w1) (h2 : PgPost gp g w1 w2) : PgPost gp g w w2 := ⟨h2.1, h.2.trans h2.2 fun _ q => .inl q⟩
theorem PgPost.from {w w1 w2 : World} {gp : Nat} {g : Nat → Nat} (hb : Below w.heap.size w w1) (h2 : PgPost gp g w1 w2) : PgPost gp g w w2 := ⟨h2.1, (Only.of_below hb _).trans h2.2 fun _ q => .inl q⟩

theorem run_copy_blk {P : Program} {w : World} (dT sT ty elem : TypeId) (hu : P.underlying dT = some (.slice elem)) (hsz : (P.info? elem).map (·.size) = some 1)
    (g of dl dc : Nat) (t : TypeId) (f : Nat → Nat) (hb : Blk w g t ((pgL f).map byteV).toArray) (hod : of + dl ≤ 448)
    (B : Nat) (A : Option Addr) (sl sc : Nat) (news : List Nat) (hl : news.length = sl) (hat : Bytes w B A news) (hle : sl ≤ dl) :
    ∃ w', (Builtin.copy_ #[dT, sT] ty #[.slice (some ⟨g, of, none⟩) dl dc, .slice A sl sc]).run P w = .ok (goInt sl) w' ∧ Blk w' g t ((pgL (upd f of news)).map byteV).toArray ∧ w.grownBy w' (some g) := by
  subst hl
  rcases Nat.eq_zero_or_pos news.length with h0 | h0
  · refine ⟨w, ?_, ?_, World.grownBy.refl w _⟩
    · have := run_copy_none (P := P) w dT sT ty elem (some ⟨g, of, none⟩) A dl dc news.length sc hu hsz (by rw [h0]; exact Nat.zero_min _)
      rw [this, h0]
      rfl
    · rw [List.length_eq_zero_iff.1 h0, upd_nil]
      exact hb
  · obtain ⟨b, o2, rfl, _, _, _⟩ := hat.at_ (k := 0) h0
    have hsrc : ∀ j v, (news.map byteV)[j]? = some v → w.cell? ((⟨b, o2, none⟩ : Addr).add j) = some v := fun j v hj => by
      obtain ⟨hj1, hj2⟩ := List.getElem?_eq_some_iff.1 hj
      obtain ⟨b', o', e', _, hc⟩ := hat.1 j hj1
      injection e' with e'
      injection e' with e1 e2
      subst e1
      subst e2
      have : (⟨b, o2, none⟩ : Addr).add j = ⟨b, o2 + j, none⟩ := by
        unfold Addr.add
        split
        · subst_vars; rfl
        · rfl
      rw [this, hc, hj2]
    have hrun := run_copy_row (P := P) w dT sT ty elem g of dl dc ⟨b, o2, none⟩ news.length sc ((pgL f).map byteV).toArray t (news.map byteV) hu hsz hb (by rw [List.length_map]; exact (Nat.min_eq_left hle).symm) hsrc (by simp [pgL_length]; omega) (bytes_oneCell news)
    rw [List.length_map] at hrun
    refine ⟨_, hrun, ?_, ?_⟩
    · have e : (List.take of ((pgL f).map byteV).toArray.toList ++ news.map byteV ++ List.drop (of + news.length) ((pgL f).map byteV).toArray.toList) = (pgL (upd f of news)).map byteV := by
        rw [← pgL_upd f (by omega)]
        simp
      rw [e]
      exact setRow_heap w g _ _ _ _ hb
    · exact ⟨rfl, rfl, rfl, by simp [World.setRow], fun k hk hne => setRow_other w g k _ (by intro e; exact hne (by rw [e]))⟩
theorem wp_copy_blk {P : Program} {w : World} {o : Oper} {a : Act} {K : Act → World → Prop} {Q : Exit → Act → World → Prop} (d s : Operand) (dT sT : TypeId)
    (ho : o.op = .call { callee := .builtin .copy, args := #[d, s], argTypes := #[dT, sT] }) (elem : TypeId) (hu : P.underlying dT = some (.slice elem)) (hsz : (P.info? elem).map (·.size) = some 1)
    (g of dl dc : Nat) (t : TypeId) (f : Nat → Nat) (hd : a.eval d = .slice (some ⟨g, of, none⟩) dl dc) (hb : Blk w g t ((pgL f).map byteV).toArray) (hod : of + dl ≤ 448)
    (B : Nat) (A : Option Addr) (sl sc : Nat) (news : List Nat) (hs : a.eval s = .slice A sl sc) (hl : news.length = sl) (hat : Bytes w B A news) (hle : sl ≤ dl)
    (h : ∀ w', Blk w' g t ((pgL (upd f of news)).map byteV).toArray → w.grownBy w' (some g) → K (a.put o.dst (goInt sl)) w') : o.wp P a w K Q := by
  obtain ⟨w', hrun, h2, h3⟩ := run_copy_blk (P := P) (w := w) dT sT o.type elem hu hsz g of dl dc t f hb hod B A sl sc news hl hat hle
  unfold Oper.wp execOp
  simp only [ho, resolve, invoke, builtin, Sem.run_bind, Sem.run_pure, Result.andThen_ok, List.map_toArray, List.map_cons, List.map_nil, hd, hs, hrun]
  exact h w' h2 h3
theorem step_copy_blk {P : Program} {w : World} {ops : Array Oper} {o : Oper} {a : Act} {K : Act → World → Prop} {Q : Exit → Act → World → Prop} {E : Prop} (hgd : o.guard = none) (d s : Operand) (dT sT : TypeId)
    (ho : o.op = .call { callee := .builtin .copy, args := #[d, s], argTypes := #[dT, sT] }) (elem : TypeId) (hu : P.underlying dT = some (.slice elem)) (hsz : (P.info? elem).map (·.size) = some 1)
    (g of dl dc : Nat) (t : TypeId) (f : Nat → Nat) (hd : a.eval d = .slice (some ⟨g, of, none⟩) dl dc) (hb : Blk w g t ((pgL f).map byteV).toArray) (hod : of + dl ≤ 448)
    (B : Nat) (A : Option Addr) (sl sc : Nat) (news : List Nat) (hs : a.eval s = .slice A sl sc) (hl : news.length = sl) (hat : Bytes w B A news) (hle : sl ≤ dl)
    (h : ∀ w', Blk w' g t ((pgL (upd f of news)).map byteV).toArray → w.grownBy w' (some g) → K (a.put o.dst (goInt sl)) w') :
    if Region.wanted o (yielded ops a.tmps) = true then Oper.wp P o a w K Q else E := by
  have hw : Region.wanted o (yielded ops a.tmps) = true := by simp [Region.wanted, hgd]
  rw [if_pos hw]
  exact wp_copy_blk d s dT sT ho elem hu hsz g of dl dc t f hd hb hod B A sl sc news hs hl hat hle h
theorem wpList_copy_blk {P : Program} {w : World} {ops : Array Oper} {rest : List Oper} {o : Oper} {a : Act} {Q : Exit → Act → World → Prop} (hgd : o.guard = none) (d s : Operand) (dT sT : TypeId)
    (ho : o.op = .call { callee := .builtin .copy, args := #[d, s], argTypes := #[dT, sT] }) (elem : TypeId) (hu : P.underlying dT = some (.slice elem)) (hsz : (P.info? elem).map (·.size) = some 1)
    (g of dl dc : Nat) (t : TypeId) (f : Nat → Nat) (hd : a.eval d = .slice (some ⟨g, of, none⟩) dl dc) (hb : Blk w g t ((pgL f).map byteV).toArray) (hod : of + dl ≤ 448)
    (B : Nat) (A : Option Addr) (sl sc : Nat) (news : List Nat) (hs : a.eval s = .slice A sl sc) (hl : news.length = sl) (hat : Bytes w B A news) (hle : sl ≤ dl)
    (h : ∀ w', Blk w' g t ((pgL (upd f of news)).map byteV).toArray → w.grownBy w' (some g) → wpList P ops Q rest (a.put o.dst (goInt sl)) w') : wpList P ops Q (o :: rest) a w :=
  wpList_plain hgd fun _ hK => wp_copy_blk d s dT sT ho elem hu hsz g of dl dc t f hd hb hod B A sl sc news hs hl hat hle fun w' h2 h3 => hK _ _ (h w' h2 h3)
theorem run_clear_blk {P : Program} {w : World} (T ty elem : TypeId) (hu : P.underlying T = some (.slice elem)) (i : TypeInfo) (hi : P.info? elem = some i) (hz : i.zero = some (.int .u8 0))
    (g of n c : Nat) (t : TypeId) (f : Nat → Nat) (hb : Blk w g t ((pgL f).map byteV).toArray) (hod : of + n ≤ 448) :
    ∃ w', (Builtin.clear_ #[T] ty #[.slice (some ⟨g, of, none⟩) n c]).run P w = .ok (.tuple #[]) w' ∧ Blk w' g t ((pgL (upd f of (List.replicate n 0))).map byteV).toArray ∧ w.grownBy w' (some g) := by
  cases n with
  | zero =>
    refine ⟨w, ?_, ?_, World.grownBy.refl w _⟩
    · simp [Builtin.clear_, run_underlying hu]
    · rw [List.replicate_zero, upd_nil]
      exact hb
  | succ m =>
    have hzc : (Builtin.zeroCells (Value.int .u8 0).cells (m + 1)).toList = (List.replicate (m + 1) 0).map byteV := by
      apply List.ext_getElem
      · simp [Builtin.zeroCells, Value.cells]
      · intro j h1 h2
        simp [Builtin.zeroCells, Value.cells, byteV, Nat.mod_one]
    have hst := run_storeCells_at P g of t ((List.replicate (m + 1) 0).map byteV) 0 ((pgL f).map byteV).toArray w hb (by simp [pgL_length]; omega) (bytes_oneCell _)
    refine ⟨w.setRow g ((pgL (upd f of (List.replicate (m + 1) 0))).map byteV).toArray, ?_, setRow_heap w g _ _ _ _ hb, ⟨rfl, rfl, rfl, by simp [World.setRow], fun k hk hne => setRow_other w g k _ (by intro e; exact hne (by rw [e]))⟩⟩
    have e : (List.take (of + 0) ((pgL f).map byteV).toArray.toList ++ (List.replicate (m + 1) 0).map byteV ++ List.drop (of + 0 + ((List.replicate (m + 1) 0).map byteV).length) ((pgL f).map byteV).toArray.toList) = (pgL (upd f of (List.replicate (m + 1) 0))).map byteV := by
      rw [← pgL_upd f (by simp; omega)]
      simp
    rw [e] at hst
    rw [List.map_replicate] at hst
    simp [Builtin.clear_, run_underlying hu, zeroValue, typeInfo, hi, hz, hzc, hst]
theorem wp_clear_blk {P : Program} {w : World} {o : Oper} {a : Act} {K : Act → World → Prop} {Q : Exit → Act → World → Prop} (s : Operand) (T : TypeId)
    (ho : o.op = .call { callee := .builtin .clear, args := #[s], argTypes := #[T] }) (elem : TypeId) (hu : P.underlying T = some (.slice elem)) (i : TypeInfo) (hi : P.info? elem = some i) (hz : i.zero = some (.int .u8 0))
    (g of n c : Nat) (t : TypeId) (f : Nat → Nat) (hs : a.eval s = .slice (some ⟨g, of, none⟩) n c) (hb : Blk w g t ((pgL f).map byteV).toArray) (hod : of + n ≤ 448)
    (h : ∀ w', Blk w' g t ((pgL (upd f of (List.replicate n 0))).map byteV).toArray → w.grownBy w' (some g) → K (a.put o.dst (.tuple #[])) w') : o.wp P a w K Q := by
  obtain ⟨w', hrun, h2, h3⟩ := run_clear_blk (P := P) (w := w) T o.type elem hu i hi hz g of n c t f hb hod
  unfold Oper.wp execOp
  simp only [ho, resolve, invoke, builtin, Sem.run_bind, Sem.run_pure, Result.andThen_ok, List.map_toArray, List.map_cons, List.map_nil, hs, hrun]
  exact h w' h2 h3
theorem wpList_clear_blk {P : Program} {w : World} {ops : Array Oper} {rest : List Oper} {o : Oper} {a : Act} {Q : Exit → Act → World → Prop} (hgd : o.guard = none) (s : Operand) (T : TypeId)
    (ho : o.op = .call { callee := .builtin .clear, args := #[s], argTypes := #[T] }) (elem : TypeId) (hu : P.underlying T = some (.slice elem)) (i : TypeInfo) (hi : P.info? elem = some i) (hz : i.zero = some (.int .u8 0))
    (g of n c : Nat) (t : TypeId) (f : Nat → Nat) (hs : a.eval s = .slice (some ⟨g, of, none⟩) n c) (hb : Blk w g t ((pgL f).map byteV).toArray) (hod : of + n ≤ 448)
    (h : ∀ w', Blk w' g t ((pgL (upd f of (List.replicate n 0))).map byteV).toArray → w.grownBy w' (some g) → wpList P ops Q rest (a.put o.dst (.tuple #[])) w') : wpList P ops Q (o :: rest) a w :=
  wpList_plain hgd fun _ hK => wp_clear_blk s T ho elem hu i hi hz g of n c t f hs hb hod fun w' h2 h3 => hK _ _ (h w' h2 h3)
theorem PgPost.of_grown {w w' : World} {gp : Nat} {f : Nat → Nat} (hb : Blk w' gp 67 ((pgL f).map byteV).toArray) (hs : ∀ i, f i < 256) (hg : w.grownBy w' (some gp)) : PgPost gp f w w' :=
  ⟨⟨hb, hs⟩, Only.of_grown hg fun b e => by injection e with e; exact .inl e.symm⟩
/-- a number read there -/
def rd (f : Nat → Nat) (a n : Nat) : Nat := getL (cut f a n)
theorem cut_take {f : Nat → Nat} {a n : Nat} (h : n ≤ 8) : (cut f a n).take 8 = cut f a n := List.take_of_length_le (by rw [cut_length]; exact h)
theorem rd_lt {f : Nat → Nat} (h : ∀ i, f i < 256) (a n : Nat) : rd f a n < 256 ^ n := by
  have := getL_lt (cut f a n) (cut_small h a n)
  rw [cut_length] at this
  exact this
section
variable {w : World} {gp : Nat} {f : Nat → Nat}
set_option maxHeartbeats 1000000 in
theorem pget_any (h : PgAt w gp f) (a n : Nat) (hn1 : 1 ≤ n) (hn : n ≤ 4) (ha : a + n ≤ 448) :
    Calls Try.prog 53 #[.pointer (some ⟨gp, 0, none⟩), .int .i64 a, .int .i64 n] w fun e w' => e = .returned (.int .i64 (rd f a n : Nat)) ∧ w = w' := by
  have hby := h.bytes ha
  have hg := get_any (some ⟨gp, a, none⟩) (448 - a) (cut f a n) w.heap.size w hby (by rw [cut_length]; omega) (by rw [cut_length]; omega)
  rw [cut_take (by omega), cut_length] at hg
  have hlt := rd_lt h.small a n
  have hlt2 : 256 ^ n ≤ 256 ^ 4 := Nat.pow_le_pow_right (by omega) hn
  have hv : getL (cut f a n) = rd f a n := rfl
  rw [hv] at hg
  generalize rd f a n = v at *
  have hrw : IntKind.i64.wrap (v : Int) = (v : Int) := by rw [IntKind.wrap_i64]; omega
  have e1 : (0 : Int) ≤ (a : Int) := by omega
  have e2 : (a : Int) ≤ (a : Int) + (n : Int) := by omega
  have e3 : (a : Int) + (n : Int) ≤ 448 := by omega
  have e4 : IntKind.i64.wrap ((a : Int) + (n : Int)) = (a : Int) + (n : Int) := by rw [IntKind.wrap_i64]; omega
  clear h hby hv
  go_enter Try.func53, Try.ntmps53
  go_wp2_with fail
  refine hg.mono ?_
  rintro e w1 ⟨rfl, rfl⟩
  clear hg
  go_wp2
  go_ret
  exact ⟨rfl, rfl⟩
end
end Go.Proofs.Ytkknfccfgmflmaa
