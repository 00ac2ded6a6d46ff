/- Words for memory that this seat's contracts use: a slice that reads as a list, from which block on it lies. Conditions: none; no program in sight. -/
import Derived.WalkKit
import Derived.ProofKit
import Derived.OpenShut
import Derived.Below
import Derived.Lib.Hide
import Derived.Laws.OwnMore
import Derived.Deep.Draws
import Derived.WalkSmall
import Derived.Maps.AppendAt
import Derived.Laws.BytesArg
namespace Go.Proofs.Ythbaoljghofkoaa
open Go.RowKit

/-- The slice at address A reads as the values xs, all of them below block B. -/
def At (w : World) (B : Nat) (A : Option Addr) (xs : List Value) : Prop :=
  ∀ j (h : j < xs.length), ∃ b o, A = some ⟨b, o, none⟩ ∧ b < B ∧ w.cell? ⟨b, o + j, none⟩ = some xs[j]

theorem At.nil (w : World) (B : Nat) (A : Option Addr) : At w B A [] := fun _ h => absurd h (by simp)
theorem At.below {w w' : World} {B : Nat} {A : Option Addr} {xs : List Value} (h : At w B A xs) (hb : Below B w w') : At w' B A xs := fun j hj => by
  obtain ⟨b, o, e, hlt, hc⟩ := h j hj
  exact ⟨b, o, e, hlt, (hb.cell (p := ⟨b, o + j, none⟩) hlt).trans hc⟩
theorem At.more {w : World} {B B' : Nat} {A : Option Addr} {xs : List Value} (h : At w B A xs) (hB : B ≤ B') : At w B' A xs := fun j hj => by
  obtain ⟨b, o, e, hlt, hc⟩ := h j hj
  exact ⟨b, o, e, by omega, hc⟩
theorem At.alloc {w : World} {B : Nat} {A : Option Addr} {xs : List Value} (h : At w B A xs) (hB : B ≤ w.heap.size) (o : Obj) : At (w.alloc o) B A xs := h.below ((Below.refl _ _).alloc hB o)
theorem At.drew {w : World} {B : Nat} {A : Option Addr} {xs : List Value} (h : At w B A xs) : At w.drew B A xs := h
/-- A new block of values reads as they stand. -/
theorem At.new (w : World) (l : List Value) (t : TypeId) (f : Nat × Nat) : At (w.alloc (.cells l.toArray t f)) (w.heap.size + 1) (some ⟨w.heap.size, 0, none⟩) l := fun j hj => by
  refine ⟨_, 0, rfl, by omega, ?_⟩
  have h : (w.alloc (.cells l.toArray t f)).heap[w.heap.size]? = some (.cells l.toArray t f) := by
    show (w.heap.push _)[w.heap.size]? = _
    rw [Array.getElem?_push, if_pos rfl]
  simp only [World.cell?, h]
  simp [hj]
/-- A row that the call owns reads as its cells. -/
theorem At.own {w : World} {base : Nat} {e : TypeId} {A : Option Addr} {n m c : Nat} {xs : List Value} (h : w.ownsRow base e 1 (.slice A n c) m xs) : At w w.heap.size A xs := fun j hj => by
  have hl := h.1
  rcases h.2 with ⟨_, rfl⟩ | ⟨g, cap, cur, hv, hg, hh, hn, hm, hs, hx⟩
  · omega
  · injection hv with h1 h2 h3
    subst h1
    have hlt : g < w.heap.size := by
      rcases Nat.lt_or_ge g w.heap.size with q | q
      · exact q
      · rw [Array.getElem?_eq_none q] at hh; cases hh
    refine ⟨g, 0, rfl, hlt, ?_⟩
    have hc : cur[0 + j]? = some xs[j] := by
      have : (cur.toList.take (m * 1))[j]? = some xs[j] := by rw [hx]; exact List.getElem?_eq_getElem hj
      rw [List.getElem?_take] at this
      split at this
      · simpa using this
      · cases this
    simp only [World.cell?, hh]
    simpa using hc

theorem ret_nat {k : IntKind} {a b : Nat} (h : a = b) : Ending.returned (.int k (a : Int)) = .returned (.int k (b : Int)) := by rw [h]
theorem ret_int {k : IntKind} {a b : Int} (h : a = b) : Ending.returned (.int k a) = .returned (.int k b) := by rw [h]
theorem ret_slice {A : Option Addr} {c a b : Nat} (h : a = b) : Ending.returned (.slice A a c) = .returned (.slice A b c) := by rw [h]
theorem ret_bool {a b : Bool} (h : a = b) : Ending.returned (.bool a) = .returned (.bool b) := by rw [h]

/-- A byte as a value. -/
def byteV (x : Nat) : Value := .int .u8 (x : Int)
def Small (l : List Nat) : Prop := ∀ x ∈ l, x < 256
/-- The slice at address A reads as the bytes l. -/
def Bytes (w : World) (B : Nat) (A : Option Addr) (l : List Nat) : Prop := At w B A (l.map byteV) ∧ Small l

theorem Bytes.nil (w : World) (B : Nat) (A : Option Addr) : Bytes w B A [] := ⟨At.nil _ _ _, fun _ h => by cases h⟩
theorem Bytes.below {w w' : World} {B : Nat} {A : Option Addr} {l : List Nat} (h : Bytes w B A l) (hb : Below B w w') : Bytes w' B A l := ⟨h.1.below hb, h.2⟩
theorem Bytes.more {w : World} {B B' : Nat} {A : Option Addr} {l : List Nat} (h : Bytes w B A l) (hB : B ≤ B') : Bytes w B' A l := ⟨h.1.more hB, h.2⟩
theorem Bytes.alloc {w : World} {B : Nat} {A : Option Addr} {l : List Nat} (h : Bytes w B A l) (hB : B ≤ w.heap.size) (o : Obj) : Bytes (w.alloc o) B A l := ⟨h.1.alloc hB o, h.2⟩
theorem Bytes.at_ {w : World} {B : Nat} {A : Option Addr} {l : List Nat} (h : Bytes w B A l) {k : Nat} (hk : k < l.length) :
    ∃ b o, A = some ⟨b, o, none⟩ ∧ b < B ∧ w.cell? ⟨b, o + k, none⟩ = some (.int .u8 (l[k] : Int)) ∧ l[k] < 256 := by
  obtain ⟨b, o, e, hb, hc⟩ := h.1 k (by simpa using hk)
  exact ⟨b, o, e, hb, by simpa [byteV] using hc, h.2 _ (List.getElem_mem hk)⟩
theorem Bytes.new (w : World) (l : List Nat) (t : TypeId) (f : Nat × Nat) (hl : Small l) : Bytes (w.alloc (.cells (l.map byteV).toArray t f)) (w.heap.size + 1) (some ⟨w.heap.size, 0, none⟩) l := ⟨At.new w _ t f, hl⟩
theorem small_append {a b : List Nat} (ha : Small a) (hb : Small b) : Small (a ++ b) := fun x hx => by
  rcases List.mem_append.1 hx with h | h
  · exact ha x h
  · exact hb x h

theorem own_form {w : World} {base : Nat} {e : TypeId} {size : Nat} {v : Value} {n : Nat} {xs : List Value} (h : w.ownsRow base e size v n xs) : ∃ A c, v = .slice A n c ∧ n ≤ c ∧ c ≤ maxLen := by
  rcases h.2 with ⟨rfl, rfl⟩ | ⟨g, cap, cur, rfl, _, _, hn, hm, _⟩
  · exact ⟨none, 0, rfl, Nat.le_refl _, Nat.zero_le _⟩
  · exact ⟨_, cap, rfl, hn, hm⟩

theorem own_pos {w : World} {base : Nat} {e : TypeId} {size : Nat} {A : Option Addr} {n c : Nat} {xs : List Value} (h : w.ownsRow base e size (.slice A n c) n xs) (hn : 0 < n) : ∃ g, A = some ⟨g, 0, none⟩ ∧ base ≤ g ∧ g < w.heap.size := by
  rcases h.2 with ⟨_, h0⟩ | ⟨g, cap, cur, hv, hg, _⟩
  · omega
  · injection hv with hA _ _
    subst hA
    exact ⟨g, rfl, h.lt g rfl⟩

/-- 'append(s, x...)' onto a row of the call's own, x whatever slice that reads as values of one cell. -/
theorem run_append_at {P : Program} (w : World) (base : Nat) (t ty e : TypeId) (i : TypeInfo) (z : Value) (bytes : Nat) (ht : P.underlying t = some (.slice e)) (hi : P.info? e = some i) (hz : i.zero = some z)
    (hsize : i.size = 1) (hby : i.bytes = bytes) (hzs : z.cells.size = 1) (v : Value) (n : Nat) (xs : List Value) (hown : w.ownsRow base e 1 v n xs)
    (B : Nat) (A : Option Addr) (m c : Nat) (news : List Value) (hm : news.length = m) (hr : At w B A news) (h1 : ∀ u ∈ news, u.oneCell' = true)
    (h63 : n + m ≤ maxLen) (hbytes : (n + m) * bytes ≤ 140737488355328) (hbase : base ≤ w.heap.size) :
    ∃ A' c' w', (Builtin.append_ #[t, t] ty #[v, .slice A m c]).run P w = .ok (.slice A' (n + m) c') w' ∧ w'.ownsRow base e 1 (.slice A' (n + m) c') (n + m) (xs ++ news) ∧ w.grownBy w' v.ownBlock ∧
      ((Value.slice A' (n + m) c').ownBlock = v.ownBlock ∨ (Value.slice A' (n + m) c').ownBlock = some w.heap.size) := by
  have key : ∃ v' w', (Builtin.append_ #[t, t] ty #[v, .slice A m c]).run P w = .ok v' w' ∧ w'.ownsRow base e 1 v' (n + m) (xs ++ news) ∧ w.grownBy w' v.ownBlock ∧
      (v'.ownBlock = v.ownBlock ∨ v'.ownBlock = some w.heap.size) := by
    cases A with
    | none =>
      have h0 : news = [] := by
        cases news with
        | nil => rfl
        | cons u us =>
          obtain ⟨b, o, h, _⟩ := hr 0 (by simp)
          cases h
      subst h0
      subst hm
      refine ⟨v, w, ?_, by simpa using hown, World.grownBy.refl w _, .inl rfl⟩
      rcases hown.2 with ⟨rfl, rfl⟩ | ⟨g, cap, cur, rfl, _, _, hnc, _⟩
      · simp [Builtin.append_, run_underlying ht, sizeOf, typeInfo, hi, Builtin.lenOf, Builtin.firstCells]
      · simp [Builtin.append_, run_underlying ht, sizeOf, typeInfo, hi, Builtin.lenOf, Builtin.firstCells, hnc, storeCells]
    | some ad =>
      have hnews : ∀ j u, news[j]? = some u → w.cell? (ad.add j) = some u := fun j u hu => by
        obtain ⟨hj, hju⟩ := List.getElem?_eq_some_iff.1 hu
        obtain ⟨b, o, he, _, hc⟩ := hr j hj
        injection he with he
        subst he
        have : (⟨b, o, none⟩ : Addr).add j = ⟨b, o + j, none⟩ := by
          unfold Addr.add
          split
          · subst_vars; rfl
          · rfl
        rw [this, hc, hju]
      obtain ⟨v', w', hrun, h2, h3, _, h5⟩ := run_append_own_at (P := P) w base t ty e i z 1 bytes ht hi hz hsize hby hzs (by omega) v n xs hown ad m c news (by omega) hnews h1 h63 hbytes hbase
      exact ⟨v', w', hrun, h2, h3, h5⟩
  obtain ⟨v', w', hrun, h2, h3, h5⟩ := key
  obtain ⟨A', c', rfl, _⟩ := own_form h2
  exact ⟨A', c', w', hrun, h2, h3, h5⟩

theorem wpList_append_at {P : Program} {w : World} {ops : Array Oper} {rest : List Oper} {o : Oper} {a : Act} {Q : Exit → Act → World → Prop} (hgd : o.guard = none) (s x : Operand) (t : TypeId)
    (ho : o.op = .call { callee := .builtin .append, args := #[s, x], argTypes := #[t, t] })
    (base : Nat) (e : TypeId) (i : TypeInfo) (z : Value) (bytes : Nat) (ht : P.underlying t = some (.slice e)) (hi : P.info? e = some i) (hz : i.zero = some z)
    (hsize : i.size = 1) (hby : i.bytes = bytes) (hzs : z.cells.size = 1) (v : Value) (n : Nat) (xs : List Value) (hs : a.eval s = v) (hown : w.ownsRow base e 1 v n xs)
    (B : Nat) (A : Option Addr) (m c : Nat) (news : List Value) (hx : a.eval x = .slice A m c) (hm : news.length = m) (hr : At w B A news) (h1 : ∀ u ∈ news, u.oneCell' = true)
    (h63 : n + m ≤ maxLen) (hbytes : (n + m) * bytes ≤ 140737488355328) (hbase : base ≤ w.heap.size)
    (h : ∀ A' c' w', w'.ownsRow base e 1 (.slice A' (n + m) c') (n + m) (xs ++ news) → w.grownBy w' v.ownBlock → ((Value.slice A' (n + m) c').ownBlock = v.ownBlock ∨ (Value.slice A' (n + m) c').ownBlock = some w.heap.size) →
      wpList P ops Q rest (a.put o.dst (.slice A' (n + m) c')) w') : wpList P ops Q (o :: rest) a w := by
  refine wpList_plain hgd fun K hK => ?_
  obtain ⟨A', c', w', hrun, h2, h3, h4⟩ := run_append_at (P := P) w base t o.type e i z bytes ht hi hz hsize hby hzs v n xs hown B A m c news hm hr h1 h63 hbytes hbase
  unfold Oper.wp execOp
  simp only [ho, resolve, invoke, builtin, Sem.run_bind, Sem.run_pure, Result.andThen_ok, List.map_toArray, List.map_cons, List.map_nil, hs, hx, hrun]
  exact hK _ _ (h A' c' w' h2 h3 h4)

theorem bytes_oneCell (l : List Nat) : ∀ u ∈ l.map byteV, u.oneCell' = true := fun u hu => by
  obtain ⟨x, _, rfl⟩ := List.mem_map.1 hu
  rfl
/-- What is written into one of the call's own rows, or into new blocks, lies from 'base' on. -/
theorem below_own {B base : Nat} {a w w' : World} {e : TypeId} {size : Nat} {v : Value} {n : Nat} {xs : List Value} (h : Below B a w) (hg : w.grownBy w' v.ownBlock) (hown : w.ownsRow base e size v n xs) (hB : B ≤ base) (hb : base ≤ w.heap.size) : Below B a w' :=
  h.grown hg (by omega) (fun k hk => by have := hown.lt k hk; omega)

/-- Bytes as a string. -/
def strB (l : List Nat) : ByteArray := ⟨(l.map UInt8.ofNat).toArray⟩
theorem run_bytes_str {P : Program} {w : World} {B : Nat} {A : Option Addr} {l : List Nat} (h : Bytes w B A l) (src dst e : TypeId) (hs : P.underlying src = some (.slice e)) (he : P.underlying e = some (.int .u8)) (hd : P.underlying dst = some .string) (cap : Nat) :
    (convert src dst (.slice A l.length cap)).run P w = .ok (.string (strB l)) w := by
  cases l with
  | nil =>
    cases A with
    | none => exact run_convert_bytes_nil w src e hs he 0 cap dst hd
    | some ad =>
      rw [run_convert_bytes_string w src dst e _ _ cap hs he hd]
      exact run_bytesToString w ad 0 cap [] (by simp [loadCells, loadCellsFrom])
  | cons x l =>
    obtain ⟨b, o, rfl, _, _⟩ := h.at_ (k := 0) (by simp)
    have := run_convert_bytes_arg (P := P) w src e hs he b o (x :: l).length cap ((x :: l).map fun n : Nat => (n : Int)) (by simp) (fun i hi => by
      obtain ⟨b', o', e', _, hc, _⟩ := h.at_ hi
      injection e' with e'
      injection e' with e1 e2
      subst e1
      subst e2
      rw [hc, List.getD_eq_getElem?_getD, List.getElem?_map, List.getElem?_eq_getElem hi]
      rfl) dst hd
    rw [this]
    simp only [strOfNums, strB, List.map_map]
    rfl
theorem strB_toList (l : List Nat) : (strB l).toList = l.map UInt8.ofNat := ByteArray.toList_mk _
theorem ofNat_inj {x y : Nat} (hx : x < 256) (hy : y < 256) (h : UInt8.ofNat x = UInt8.ofNat y) : x = y := by
  have := congrArg UInt8.toNat h
  simp only [UInt8.toNat_ofNat'] at this
  omega
theorem map_ofNat_inj : ∀ {l m : List Nat}, Small l → Small m → l.map UInt8.ofNat = m.map UInt8.ofNat → l = m
  | [], [], _, _, _ => rfl
  | [], _ :: _, _, _, h => by cases h
  | _ :: _, [], _, _, h => by cases h
  | x :: l, y :: m, hl, hm, h => by
    simp only [List.map_cons, List.cons.injEq] at h
    rw [ofNat_inj (hl x (by simp)) (hm y (by simp)) h.1, map_ofNat_inj (fun z hz => hl z (by simp [hz])) (fun z hz => hm z (by simp [hz])) h.2]
theorem strB_beq {l m : List Nat} (hl : Small l) (hm : Small m) : ((strB l).toList == (strB m).toList) = decide (l = m) := by
  rw [strB_toList, strB_toList, Bool.eq_iff_iff, beq_iff_eq, decide_eq_true_iff]
  exact ⟨map_ofNat_inj hl hm, fun h => by rw [h]⟩

theorem At.take {w : World} {B : Nat} {A : Option Addr} {xs : List Value} (h : At w B A xs) (n : Nat) : At w B A (xs.take n) := fun j hj => by
  obtain ⟨b, o, e, hb, hc⟩ := h j (by rw [List.length_take] at hj; omega)
  exact ⟨b, o, e, hb, by rw [hc, List.getElem_take]⟩
theorem Bytes.take {w : World} {B : Nat} {A : Option Addr} {l : List Nat} (h : Bytes w B A l) (n : Nat) : Bytes w B A (l.take n) := ⟨by rw [List.map_take]; exact h.1.take n, fun x hx => h.2 x (List.mem_of_mem_take hx)⟩
/-- a cut at its front: 'b[k:]' -/
def shift (A : Option Addr) (k : Nat) : Option Addr := A.map fun a => ⟨a.block, a.off + k, none⟩
theorem At.drop {w : World} {B : Nat} {A : Option Addr} {xs : List Value} (h : At w B A xs) (k : Nat) : At w B (shift A k) (xs.drop k) := fun j hj => by
  rw [List.length_drop] at hj
  obtain ⟨b, o, e, hb, hc⟩ := h (k + j) (by omega)
  exact ⟨b, o + k, by rw [e]; rfl, hb, by rw [Nat.add_assoc, hc, List.getElem_drop]⟩
theorem Bytes.drop {w : World} {B : Nat} {A : Option Addr} {l : List Nat} (h : Bytes w B A l) (k : Nat) : Bytes w B (shift A k) (l.drop k) := ⟨by rw [List.map_drop]; exact h.1.drop k, fun x hx => h.2 x (List.mem_of_mem_drop hx)⟩

/-- Only draws have gone by. -/
def Drew (w w' : World) : Prop := ∃ m, w' = w.drewN m
theorem Drew.refl (w : World) : Drew w w := ⟨0, rfl⟩
theorem Drew.more {w w' : World} (h : Drew w w') (n : Nat) : Drew w (w'.drewN n) := by
  obtain ⟨m, rfl⟩ := h
  exact ⟨m + n, World.drewN_drewN _ _ _⟩
theorem Drew.trans {a b c : World} (h : Drew a b) (k : Drew b c) : Drew a c := by
  obtain ⟨n, rfl⟩ := k
  exact h.more n
theorem Drew.below {w w' : World} (h : Drew w w') (B : Nat) : Below B w w' := by
  obtain ⟨m, rfl⟩ := h
  exact below_drewN (Below.refl _ _) m
theorem Drew.size {w w' : World} (h : Drew w w') : w'.heap.size = w.heap.size := by
  obtain ⟨m, rfl⟩ := h
  rfl
theorem Drew.own {w w' : World} (h : Drew w w') {base : Nat} {e : TypeId} {size : Nat} {v : Value} {n : Nat} {xs : List Value} (ho : w.ownsRow base e size v n xs) : w'.ownsRow base e size v n xs := by
  obtain ⟨m, rfl⟩ := h
  exact ho

/-- THE CALL HANDS BACK BYTES IN MEMORY OF ITS OWN (or nil), and nothing that was there has turned. T: uint8's number. -/
def RetBytes (T : TypeId) (l : List Nat) (w : World) (e : Ending) (w' : World) : Prop :=
  ∃ A c, e = .returned (.slice A l.length c) ∧ w'.ownsRow w.heap.size T 1 (.slice A l.length c) l.length (l.map byteV) ∧ Below w.heap.size w w' ∧ Small l
theorem RetBytes.is {T : TypeId} {l : List Nat} {w : World} {e : Ending} {w' : World} (h : RetBytes T l w e w') :
    ∃ A c, e = .returned (.slice A l.length c) ∧ w'.ownsRow w.heap.size T 1 (.slice A l.length c) l.length (l.map byteV) ∧ Below w.heap.size w w' ∧ Bytes w' w'.heap.size A l := by
  obtain ⟨A, c, h1, h2, h3, h4⟩ := h
  exact ⟨A, c, h1, h2, h3, At.own h2, h4⟩
theorem own_bytes {T : TypeId} {base n : Nat} {w : World} {A : Option Addr} {c : Nat} {l : List Nat} (h : w.ownsRow base T 1 (.slice A n c) n (l.map byteV)) (hs : Small l) : Bytes w w.heap.size A l := ⟨At.own h, hs⟩

/-- What a proof's frame tells of a slice of integers that came in. -/
def IsRow (k : IntKind) (w : World) (a : Option Addr) (len cap : Nat) (zs : List Int) : Prop :=
  (a = none ∧ len = 0 ∧ cap = 0 ∧ zs = []) ∨
  ∃ x, a = some x ∧ len ≤ cap ∧ cap ≤ maxLen ∧ zs.length = cap ∧ (∀ i, i < zs.length → w.cell? (x.add i) = some (.int k (zs.getD i 0))) ∧ ∀ n ∈ zs, (Lit.int k n).wf = true

theorem wf_u8 {n : Int} (h : (Lit.int .u8 n).wf = true) : 0 ≤ n ∧ n < 256 := by
  have := bounds_u8 h
  omega
/-- A slice of bytes that came in reads as a list of bytes. -/
theorem IsRow.bytes {w : World} {a : Option Addr} {len cap : Nat} {zs : List Int} (h : IsRow .u8 w a len cap zs) : len ≤ cap ∧ ∃ l : List Nat, l.length = len ∧ Bytes w w.heap.size a l := by
  rcases h with ⟨rfl, rfl, rfl, rfl⟩ | ⟨x, rfl, hl, hm, hz, hc, hw⟩
  · exact ⟨Nat.le_refl _, [], rfl, Bytes.nil _ _ _⟩
  · refine ⟨hl, (zs.take len).map Int.toNat, by simp; omega, ?_, ?_⟩
    · intro j hj
      have hj' : j < len := by simp at hj; omega
      have h0 := hc j (by omega)
      have h00 := hc 0 (by omega)
      have hsp := World.cell?_spot h00
      obtain ⟨b, o, sp⟩ := x
      have hsp' : sp = none := by simpa [Addr.add] using hsp
      subst hsp'
      have hlt : b < w.heap.size := by
        rcases Nat.lt_or_ge b w.heap.size with q | q
        · exact q
        · simp only [World.cell?, Addr.add, if_pos] at h00
          rw [Array.getElem?_eq_none q] at h00
          cases h00
      refine ⟨b, o, rfl, hlt, ?_⟩
      have he : (⟨b, o, none⟩ : Addr).add j = ⟨b, o + j, none⟩ := by
        unfold Addr.add
        split
        · subst_vars; rfl
        · rfl
      rw [he] at h0
      rw [h0]
      have hb := wf_u8 (hw (zs.getD j 0) (by
        rw [List.getD_eq_getElem?_getD, List.getElem?_eq_getElem (by omega : j < zs.length)]
        exact List.getElem_mem _))
      simp only [List.getElem_map, byteV, List.getElem_take]
      rw [List.getD_eq_getElem?_getD, List.getElem?_eq_getElem (by omega : j < zs.length)] at hb ⊢
      simp only [Option.getD_some] at hb ⊢
      congr 2
      omega
    · intro x hx
      obtain ⟨y, hy, rfl⟩ := List.mem_map.1 hx
      have := wf_u8 (hw y (List.mem_of_mem_take hy))
      omega
end Go.Proofs.Ythbaoljghofkoaa
