/- Words for memory that this seat's contracts use: a slice that reads as a list, from which block on it lies. Conditions: none; no program in sight. -/
import Derived.WalkKit
import Derived.ProofKit
import Derived.OpenShut
import Derived.Below
import Derived.Lib.Hide
import Derived.Laws.OwnMore
import Derived.Deep.Draws
import Derived.WalkSmall
import Derived.Maps.AppendAt
import Derived.Laws.BytesArg
import Derived.Test.YtkganajbilnanaaRows
import Derived.Handy
import Derived.Outline
import Derived.WalkSpells
import Derived.WalkLawsBesides
import Derived.Deep.Slices
import Derived.Deep.Matrix
import Derived.RegionTactic
import Derived.Deep.RegionHeld3
import Derived.Deep.DrawnRows
import Derived.Deep.AppendLies
import Derived.Deep.RegionLaw
import Derived.Deep.QuietTactic
import Derived.BigQuiet
import Derived.Lib.LazyBuf
import Derived.KernelRfl
import Derived.Laws.BitsAllLaws
namespace Go.Proofs.Ytkganajbilnanaa
open Go.RowKit

/-- The slice at address A reads as the values xs, all of them below block B. -/
def At (w : World) (B : Nat) (A : Option Addr) (xs : List Value) : Prop :=
  ∀ j (h : j < xs.length), ∃ b o, A = some ⟨b, o, none⟩ ∧ b < B ∧ w.cell? ⟨b, o + j, none⟩ = some xs[j]

theorem At.nil (w : World) (B : Nat) (A : Option Addr) : At w B A [] := fun _ h => absurd h (by simp)
theorem At.below {w w' : World} {B : Nat} {A : Option Addr} {xs : List Value} (h : At w B A xs) (hb : Below B w w') : At w' B A xs := fun j hj => by
  obtain ⟨b, o, e, hlt, hc⟩ := h j hj
  exact ⟨b, o, e, hlt, (hb.cell (p := ⟨b, o + j, none⟩) hlt).trans hc⟩
theorem At.more {w : World} {B B' : Nat} {A : Option Addr} {xs : List Value} (h : At w B A xs) (hB : B ≤ B') : At w B' A xs := fun j hj => by
  obtain ⟨b, o, e, hlt, hc⟩ := h j hj
  exact ⟨b, o, e, by omega, hc⟩
theorem At.alloc {w : World} {B : Nat} {A : Option Addr} {xs : List Value} (h : At w B A xs) (hB : B ≤ w.heap.size) (o : Obj) : At (w.alloc o) B A xs := h.below ((Below.refl _ _).alloc hB o)
theorem At.drew {w : World} {B : Nat} {A : Option Addr} {xs : List Value} (h : At w B A xs) : At w.drew B A xs := h
/-- A new block of values reads as they stand. -/
theorem At.new (w : World) (l : List Value) (t : TypeId) (f : Nat × Nat) : At (w.alloc (.cells l.toArray t f)) (w.heap.size + 1) (some ⟨w.heap.size, 0, none⟩) l := fun j hj => by
  refine ⟨_, 0, rfl, by omega, ?_⟩
  have h : (w.alloc (.cells l.toArray t f)).heap[w.heap.size]? = some (.cells l.toArray t f) := by
    show (w.heap.push _)[w.heap.size]? = _
    rw [Array.getElem?_push, if_pos rfl]
  simp only [World.cell?, h]
  simp [hj]
/-- A row that the call owns reads as its cells. -/
theorem At.own {w : World} {base : Nat} {e : TypeId} {A : Option Addr} {n m c : Nat} {xs : List Value} (h : w.ownsRow base e 1 (.slice A n c) m xs) : At w w.heap.size A xs := fun j hj => by
  have hl := h.1
  rcases h.2 with ⟨_, rfl⟩ | ⟨g, cap, cur, hv, hg, hh, hn, hm, hs, hx⟩
  · omega
  · injection hv with h1 h2 h3
    subst h1
    have hlt : g < w.heap.size := by
      rcases Nat.lt_or_ge g w.heap.size with q | q
      · exact q
      · rw [Array.getElem?_eq_none q] at hh; cases hh
    refine ⟨g, 0, rfl, hlt, ?_⟩
    have hc : cur[0 + j]? = some xs[j] := by
      have : (cur.toList.take (m * 1))[j]? = some xs[j] := by rw [hx]; exact List.getElem?_eq_getElem hj
      rw [List.getElem?_take] at this
      split at this
      · simpa using this
      · cases this
    simp only [World.cell?, hh]
    simpa using hc

theorem ret_nat {k : IntKind} {a b : Nat} (h : a = b) : Ending.returned (.int k (a : Int)) = .returned (.int k (b : Int)) := by rw [h]
theorem ret_int {k : IntKind} {a b : Int} (h : a = b) : Ending.returned (.int k a) = .returned (.int k b) := by rw [h]
theorem ret_slice {A : Option Addr} {c a b : Nat} (h : a = b) : Ending.returned (.slice A a c) = .returned (.slice A b c) := by rw [h]
theorem ret_bool {a b : Bool} (h : a = b) : Ending.returned (.bool a) = .returned (.bool b) := by rw [h]

/-- A byte as a value. -/
def byteV (x : Nat) : Value := .int .u8 (x : Int)
def Small (l : List Nat) : Prop := ∀ x ∈ l, x < 256
/-- The slice at address A reads as the bytes l. -/
def Bytes (w : World) (B : Nat) (A : Option Addr) (l : List Nat) : Prop := At w B A (l.map byteV) ∧ Small l

theorem Bytes.nil (w : World) (B : Nat) (A : Option Addr) : Bytes w B A [] := ⟨At.nil _ _ _, fun _ h => by cases h⟩
theorem Bytes.below {w w' : World} {B : Nat} {A : Option Addr} {l : List Nat} (h : Bytes w B A l) (hb : Below B w w') : Bytes w' B A l := ⟨h.1.below hb, h.2⟩
theorem Bytes.more {w : World} {B B' : Nat} {A : Option Addr} {l : List Nat} (h : Bytes w B A l) (hB : B ≤ B') : Bytes w B' A l := ⟨h.1.more hB, h.2⟩
theorem Bytes.alloc {w : World} {B : Nat} {A : Option Addr} {l : List Nat} (h : Bytes w B A l) (hB : B ≤ w.heap.size) (o : Obj) : Bytes (w.alloc o) B A l := ⟨h.1.alloc hB o, h.2⟩
theorem Bytes.at_ {w : World} {B : Nat} {A : Option Addr} {l : List Nat} (h : Bytes w B A l) {k : Nat} (hk : k < l.length) :
    ∃ b o, A = some ⟨b, o, none⟩ ∧ b < B ∧ w.cell? ⟨b, o + k, none⟩ = some (.int .u8 (l[k] : Int)) ∧ l[k] < 256 := by
  obtain ⟨b, o, e, hb, hc⟩ := h.1 k (by simpa using hk)
  exact ⟨b, o, e, hb, by simpa [byteV] using hc, h.2 _ (List.getElem_mem hk)⟩
theorem Bytes.new (w : World) (l : List Nat) (t : TypeId) (f : Nat × Nat) (hl : Small l) : Bytes (w.alloc (.cells (l.map byteV).toArray t f)) (w.heap.size + 1) (some ⟨w.heap.size, 0, none⟩) l := ⟨At.new w _ t f, hl⟩
theorem small_append {a b : List Nat} (ha : Small a) (hb : Small b) : Small (a ++ b) := fun x hx => by
  rcases List.mem_append.1 hx with h | h
  · exact ha x h
  · exact hb x h

theorem own_form {w : World} {base : Nat} {e : TypeId} {size : Nat} {v : Value} {n : Nat} {xs : List Value} (h : w.ownsRow base e size v n xs) : ∃ A c, v = .slice A n c ∧ n ≤ c ∧ c ≤ maxLen := by
  rcases h.2 with ⟨rfl, rfl⟩ | ⟨g, cap, cur, rfl, _, _, hn, hm, _⟩
  · exact ⟨none, 0, rfl, Nat.le_refl _, Nat.zero_le _⟩
  · exact ⟨_, cap, rfl, hn, hm⟩

theorem own_pos {w : World} {base : Nat} {e : TypeId} {size : Nat} {A : Option Addr} {n c : Nat} {xs : List Value} (h : w.ownsRow base e size (.slice A n c) n xs) (hn : 0 < n) : ∃ g, A = some ⟨g, 0, none⟩ ∧ base ≤ g ∧ g < w.heap.size := by
  rcases h.2 with ⟨_, h0⟩ | ⟨g, cap, cur, hv, hg, _⟩
  · omega
  · injection hv with hA _ _
    subst hA
    exact ⟨g, rfl, h.lt g rfl⟩

/-- 'append(s, x...)' onto a row of the call's own, x whatever slice that reads as values of one cell. -/
theorem run_append_at {P : Program} (w : World) (base : Nat) (t ty e : TypeId) (i : TypeInfo) (z : Value) (bytes : Nat) (ht : P.underlying t = some (.slice e)) (hi : P.info? e = some i) (hz : i.zero = some z)
    (hsize : i.size = 1) (hby : i.bytes = bytes) (hzs : z.cells.size = 1) (v : Value) (n : Nat) (xs : List Value) (hown : w.ownsRow base e 1 v n xs)
    (B : Nat) (A : Option Addr) (m c : Nat) (news : List Value) (hm : news.length = m) (hr : At w B A news) (h1 : ∀ u ∈ news, u.oneCell' = true)
    (h63 : n + m ≤ maxLen) (hbytes : (n + m) * bytes ≤ 140737488355328) (hbase : base ≤ w.heap.size) :
    ∃ A' c' w', (Builtin.append_ #[t, t] ty #[v, .slice A m c]).run P w = .ok (.slice A' (n + m) c') w' ∧ w'.ownsRow base e 1 (.slice A' (n + m) c') (n + m) (xs ++ news) ∧ w.grownBy w' v.ownBlock ∧
      ((Value.slice A' (n + m) c').ownBlock = v.ownBlock ∨ (Value.slice A' (n + m) c').ownBlock = some w.heap.size) := by
  have key : ∃ v' w', (Builtin.append_ #[t, t] ty #[v, .slice A m c]).run P w = .ok v' w' ∧ w'.ownsRow base e 1 v' (n + m) (xs ++ news) ∧ w.grownBy w' v.ownBlock ∧
      (v'.ownBlock = v.ownBlock ∨ v'.ownBlock = some w.heap.size) := by
    cases A with
    | none =>
      have h0 : news = [] := by
        cases news with
        | nil => rfl
        | cons u us =>
          obtain ⟨b, o, h, _⟩ := hr 0 (by simp)
          cases h
      subst h0
      subst hm
      refine ⟨v, w, ?_, by simpa using hown, World.grownBy.refl w _, .inl rfl⟩
      rcases hown.2 with ⟨rfl, rfl⟩ | ⟨g, cap, cur, rfl, _, _, hnc, _⟩
      · simp [Builtin.append_, run_underlying ht, sizeOf, typeInfo, hi, Builtin.lenOf, Builtin.firstCells]
      · simp [Builtin.append_, run_underlying ht, sizeOf, typeInfo, hi, Builtin.lenOf, Builtin.firstCells, hnc, storeCells]
    | some ad =>
      have hnews : ∀ j u, news[j]? = some u → w.cell? (ad.add j) = some u := fun j u hu => by
        obtain ⟨hj, hju⟩ := List.getElem?_eq_some_iff.1 hu
        obtain ⟨b, o, he, _, hc⟩ := hr j hj
        injection he with he
        subst he
        have : (⟨b, o, none⟩ : Addr).add j = ⟨b, o + j, none⟩ := by
          unfold Addr.add
          split
          · subst_vars; rfl
          · rfl
        rw [this, hc, hju]
      obtain ⟨v', w', hrun, h2, h3, _, h5⟩ := run_append_own_at (P := P) w base t ty e i z 1 bytes ht hi hz hsize hby hzs (by omega) v n xs hown ad m c news (by omega) hnews h1 h63 hbytes hbase
      exact ⟨v', w', hrun, h2, h3, h5⟩
  obtain ⟨v', w', hrun, h2, h3, h5⟩ := key
  obtain ⟨A', c', rfl, _⟩ := own_form h2
  exact ⟨A', c', w', hrun, h2, h3, h5⟩

theorem wpList_append_at {P : Program} {w : World} {ops : Array Oper} {rest : List Oper} {o : Oper} {a : Act} {Q : Exit → Act → World → Prop} (hgd : o.guard = none) (s x : Operand) (t : TypeId)
    (ho : o.op = .call { callee := .builtin .append, args := #[s, x], argTypes := #[t, t] })
    (base : Nat) (e : TypeId) (i : TypeInfo) (z : Value) (bytes : Nat) (ht : P.underlying t = some (.slice e)) (hi : P.info? e = some i) (hz : i.zero = some z)
    (hsize : i.size = 1) (hby : i.bytes = bytes) (hzs : z.cells.size = 1) (v : Value) (n : Nat) (xs : List Value) (hs : a.eval s = v) (hown : w.ownsRow base e 1 v n xs)
    (B : Nat) (A : Option Addr) (m c : Nat) (news : List Value) (hx : a.eval x = .slice A m c) (hm : news.length = m) (hr : At w B A news) (h1 : ∀ u ∈ news, u.oneCell' = true)
    (h63 : n + m ≤ maxLen) (hbytes : (n + m) * bytes ≤ 140737488355328) (hbase : base ≤ w.heap.size)
    (h : ∀ A' c' w', w'.ownsRow base e 1 (.slice A' (n + m) c') (n + m) (xs ++ news) → w.grownBy w' v.ownBlock → ((Value.slice A' (n + m) c').ownBlock = v.ownBlock ∨ (Value.slice A' (n + m) c').ownBlock = some w.heap.size) →
      wpList P ops Q rest (a.put o.dst (.slice A' (n + m) c')) w') : wpList P ops Q (o :: rest) a w := by
  refine wpList_plain hgd fun K hK => ?_
  obtain ⟨A', c', w', hrun, h2, h3, h4⟩ := run_append_at (P := P) w base t o.type e i z bytes ht hi hz hsize hby hzs v n xs hown B A m c news hm hr h1 h63 hbytes hbase
  unfold Oper.wp execOp
  simp only [ho, resolve, invoke, builtin, Sem.run_bind, Sem.run_pure, Result.andThen_ok, List.map_toArray, List.map_cons, List.map_nil, hs, hx, hrun]
  exact hK _ _ (h A' c' w' h2 h3 h4)

theorem bytes_oneCell (l : List Nat) : ∀ u ∈ l.map byteV, u.oneCell' = true := fun u hu => by
  obtain ⟨x, _, rfl⟩ := List.mem_map.1 hu
  rfl
/-- What is written into one of the call's own rows, or into new blocks, lies from 'base' on. -/
theorem below_own {B base : Nat} {a w w' : World} {e : TypeId} {size : Nat} {v : Value} {n : Nat} {xs : List Value} (h : Below B a w) (hg : w.grownBy w' v.ownBlock) (hown : w.ownsRow base e size v n xs) (hB : B ≤ base) (hb : base ≤ w.heap.size) : Below B a w' :=
  h.grown hg (by omega) (fun k hk => by have := hown.lt k hk; omega)

/-- Bytes as a string. -/
def strB (l : List Nat) : ByteArray := ⟨(l.map UInt8.ofNat).toArray⟩
theorem run_bytes_str {P : Program} {w : World} {B : Nat} {A : Option Addr} {l : List Nat} (h : Bytes w B A l) (src dst e : TypeId) (hs : P.underlying src = some (.slice e)) (he : P.underlying e = some (.int .u8)) (hd : P.underlying dst = some .string) (cap : Nat) :
    (convert src dst (.slice A l.length cap)).run P w = .ok (.string (strB l)) w := by
  cases l with
  | nil =>
    cases A with
    | none => exact run_convert_bytes_nil w src e hs he 0 cap dst hd
    | some ad =>
      rw [run_convert_bytes_string w src dst e _ _ cap hs he hd]
      exact run_bytesToString w ad 0 cap [] (by simp [loadCells, loadCellsFrom])
  | cons x l =>
    obtain ⟨b, o, rfl, _, _⟩ := h.at_ (k := 0) (by simp)
    have := run_convert_bytes_arg (P := P) w src e hs he b o (x :: l).length cap ((x :: l).map fun n : Nat => (n : Int)) (by simp) (fun i hi => by
      obtain ⟨b', o', e', _, hc, _⟩ := h.at_ hi
      injection e' with e'
      injection e' with e1 e2
      subst e1
      subst e2
      rw [hc, List.getD_eq_getElem?_getD, List.getElem?_map, List.getElem?_eq_getElem hi]
      rfl) dst hd
    rw [this]
    simp only [strOfNums, strB, List.map_map]
    rfl
theorem strB_toList (l : List Nat) : (strB l).toList = l.map UInt8.ofNat := ByteArray.toList_mk _
theorem ofNat_inj {x y : Nat} (hx : x < 256) (hy : y < 256) (h : UInt8.ofNat x = UInt8.ofNat y) : x = y := by
  have := congrArg UInt8.toNat h
  simp only [UInt8.toNat_ofNat'] at this
  omega
theorem map_ofNat_inj : ∀ {l m : List Nat}, Small l → Small m → l.map UInt8.ofNat = m.map UInt8.ofNat → l = m
  | [], [], _, _, _ => rfl
  | [], _ :: _, _, _, h => by cases h
  | _ :: _, [], _, _, h => by cases h
  | x :: l, y :: m, hl, hm, h => by
    simp only [List.map_cons, List.cons.injEq] at h
    rw [ofNat_inj (hl x (by simp)) (hm y (by simp)) h.1, map_ofNat_inj (fun z hz => hl z (by simp [hz])) (fun z hz => hm z (by simp [hz])) h.2]
theorem strB_beq {l m : List Nat} (hl : Small l) (hm : Small m) : ((strB l).toList == (strB m).toList) = decide (l = m) := by
  rw [strB_toList, strB_toList, Bool.eq_iff_iff, beq_iff_eq, decide_eq_true_iff]
  exact ⟨map_ofNat_inj hl hm, fun h => by rw [h]⟩

theorem At.take {w : World} {B : Nat} {A : Option Addr} {xs : List Value} (h : At w B A xs) (n : Nat) : At w B A (xs.take n) := fun j hj => by
  obtain ⟨b, o, e, hb, hc⟩ := h j (by rw [List.length_take] at hj; omega)
  exact ⟨b, o, e, hb, by rw [hc, List.getElem_take]⟩
theorem Bytes.take {w : World} {B : Nat} {A : Option Addr} {l : List Nat} (h : Bytes w B A l) (n : Nat) : Bytes w B A (l.take n) := ⟨by rw [List.map_take]; exact h.1.take n, fun x hx => h.2 x (List.mem_of_mem_take hx)⟩
/-- a cut at its front: 'b[k:]' -/
def shift (A : Option Addr) (k : Nat) : Option Addr := A.map fun a => ⟨a.block, a.off + k, none⟩
theorem At.drop {w : World} {B : Nat} {A : Option Addr} {xs : List Value} (h : At w B A xs) (k : Nat) : At w B (shift A k) (xs.drop k) := fun j hj => by
  rw [List.length_drop] at hj
  obtain ⟨b, o, e, hb, hc⟩ := h (k + j) (by omega)
  exact ⟨b, o + k, by rw [e]; rfl, hb, by rw [Nat.add_assoc, hc, List.getElem_drop]⟩
theorem Bytes.drop {w : World} {B : Nat} {A : Option Addr} {l : List Nat} (h : Bytes w B A l) (k : Nat) : Bytes w B (shift A k) (l.drop k) := ⟨by rw [List.map_drop]; exact h.1.drop k, fun x hx => h.2 x (List.mem_of_mem_drop hx)⟩

/-- Only draws have gone by. -/
def Drew (w w' : World) : Prop := ∃ m, w' = w.drewN m
theorem Drew.refl (w : World) : Drew w w := ⟨0, rfl⟩
theorem Drew.more {w w' : World} (h : Drew w w') (n : Nat) : Drew w (w'.drewN n) := by
  obtain ⟨m, rfl⟩ := h
  exact ⟨m + n, World.drewN_drewN _ _ _⟩
theorem Drew.trans {a b c : World} (h : Drew a b) (k : Drew b c) : Drew a c := by
  obtain ⟨n, rfl⟩ := k
  exact h.more n
theorem Drew.below {w w' : World} (h : Drew w w') (B : Nat) : Below B w w' := by
  obtain ⟨m, rfl⟩ := h
  exact below_drewN (Below.refl _ _) m
theorem Drew.size {w w' : World} (h : Drew w w') : w'.heap.size = w.heap.size := by
  obtain ⟨m, rfl⟩ := h
  rfl
theorem Drew.own {w w' : World} (h : Drew w w') {base : Nat} {e : TypeId} {size : Nat} {v : Value} {n : Nat} {xs : List Value} (ho : w.ownsRow base e size v n xs) : w'.ownsRow base e size v n xs := by
  obtain ⟨m, rfl⟩ := h
  exact ho

/-- THE CALL HANDS BACK BYTES IN MEMORY OF ITS OWN (or nil), and nothing that was there has turned. T: uint8's number. -/
def RetBytes (T : TypeId) (l : List Nat) (w : World) (e : Ending) (w' : World) : Prop :=
  ∃ A c, e = .returned (.slice A l.length c) ∧ w'.ownsRow w.heap.size T 1 (.slice A l.length c) l.length (l.map byteV) ∧ Below w.heap.size w w' ∧ Small l
theorem RetBytes.is {T : TypeId} {l : List Nat} {w : World} {e : Ending} {w' : World} (h : RetBytes T l w e w') :
    ∃ A c, e = .returned (.slice A l.length c) ∧ w'.ownsRow w.heap.size T 1 (.slice A l.length c) l.length (l.map byteV) ∧ Below w.heap.size w w' ∧ Bytes w' w'.heap.size A l := by
  obtain ⟨A, c, h1, h2, h3, h4⟩ := h
  exact ⟨A, c, h1, h2, h3, At.own h2, h4⟩
theorem own_bytes {T : TypeId} {base n : Nat} {w : World} {A : Option Addr} {c : Nat} {l : List Nat} (h : w.ownsRow base T 1 (.slice A n c) n (l.map byteV)) (hs : Small l) : Bytes w w.heap.size A l := ⟨At.own h, hs⟩

/-- What a proof's frame tells of a slice of integers that came in. -/
def IsRow (k : IntKind) (w : World) (a : Option Addr) (len cap : Nat) (zs : List Int) : Prop :=
  (a = none ∧ len = 0 ∧ cap = 0 ∧ zs = []) ∨
  ∃ x, a = some x ∧ len ≤ cap ∧ cap ≤ maxLen ∧ zs.length = cap ∧ (∀ i, i < zs.length → w.cell? (x.add i) = some (.int k (zs.getD i 0))) ∧ ∀ n ∈ zs, (Lit.int k n).wf = true

theorem wf_u8 {n : Int} (h : (Lit.int .u8 n).wf = true) : 0 ≤ n ∧ n < 256 := by
  have := bounds_u8 h
  omega
/-- A slice of bytes that came in reads as a list of bytes. -/
theorem IsRow.bytes {w : World} {a : Option Addr} {len cap : Nat} {zs : List Int} (h : IsRow .u8 w a len cap zs) : len ≤ cap ∧ ∃ l : List Nat, l.length = len ∧ Bytes w w.heap.size a l := by
  rcases h with ⟨rfl, rfl, rfl, rfl⟩ | ⟨x, rfl, hl, hm, hz, hc, hw⟩
  · exact ⟨Nat.le_refl _, [], rfl, Bytes.nil _ _ _⟩
  · refine ⟨hl, (zs.take len).map Int.toNat, by simp; omega, ?_, ?_⟩
    · intro j hj
      have hj' : j < len := by simp at hj; omega
      have h0 := hc j (by omega)
      have h00 := hc 0 (by omega)
      have hsp := World.cell?_spot h00
      obtain ⟨b, o, sp⟩ := x
      have hsp' : sp = none := by simpa [Addr.add] using hsp
      subst hsp'
      have hlt : b < w.heap.size := by
        rcases Nat.lt_or_ge b w.heap.size with q | q
        · exact q
        · simp only [World.cell?, Addr.add, if_pos] at h00
          rw [Array.getElem?_eq_none q] at h00
          cases h00
      refine ⟨b, o, rfl, hlt, ?_⟩
      have he : (⟨b, o, none⟩ : Addr).add j = ⟨b, o + j, none⟩ := by
        unfold Addr.add
        split
        · subst_vars; rfl
        · rfl
      rw [he] at h0
      rw [h0]
      have hb := wf_u8 (hw (zs.getD j 0) (by
        rw [List.getD_eq_getElem?_getD, List.getElem?_eq_getElem (by omega : j < zs.length)]
        exact List.getElem_mem _))
      simp only [List.getElem_map, byteV, List.getElem_take]
      rw [List.getD_eq_getElem?_getD, List.getElem?_eq_getElem (by omega : j < zs.length)] at hb ⊢
      simp only [Option.getD_some] at hb ⊢
      congr 2
      omega
    · intro x hx
      obtain ⟨y, hy, rfl⟩ := List.mem_map.1 hx
      have := wf_u8 (hw y (List.mem_of_mem_take hy))
      omega
end Go.Proofs.Ytkganajbilnanaa


/- The contracts of the functions that the statements of several chapters share: is one list of bytes another one; own copies. Conditions: what is handed in reads as bytes. -/
namespace Go.Proofs.Ytkganajbilnanaa
open Go.ChangeShapes Go.WideShapes Go.ChangeAt Go.RowKit

theorem u8_info : (Try.prog.info? 5).map (fun i => (i.zero, i.size, i.bytes)) = some (some (.int .u8 0), 1, 1) := by kernel_rfl
theorem nat_u8 {a : Int} (h : (Lit.int .u8 a).wf = true) : ∃ n : Nat, a = n ∧ n < 256 := by
  have := bounds_u8 h
  exact ⟨a.toNat, by omega, by omega⟩
theorem nat_u64 {a : Int} (h : (Lit.int .u64 a).wf = true) : ∃ n : Nat, a = n ∧ n < 18446744073709551616 := by
  have := bounds_u64 h
  exact ⟨a.toNat, by omega, by omega⟩
theorem beq_nat (a b : Nat) : ((a : Int) == (b : Int)) = (a == b) := by
  rw [Bool.eq_iff_iff, beq_iff_eq, beq_iff_eq]; omega

end Go.Proofs.Ytkganajbilnanaa


/- Words for what a call leaves: only the blocks of a set, and new ones, have turned. Conditions: none; no program in sight. -/
namespace Go.Proofs.Ytkganajbilnanaa
open Go.RowKit
set_option linter.unusedVariables false

/-- Only the blocks of S, and new ones, have turned. -/
structure Only (S : Nat → Prop) (w w' : World) : Prop where
  os : w'.os = w.os
  tape : w'.tape = w.tape
  output : w'.output = w.output
  size : w.heap.size ≤ w'.heap.size
  block : ∀ b, b < w.heap.size → ¬ S b → w'.heap[b]? = w.heap[b]?

section
variable {S S' : Nat → Prop} {w w' w1 w2 : World}
theorem Only.refl (S : Nat → Prop) (w : World) : Only S w w := ⟨rfl, rfl, rfl, Nat.le_refl _, fun _ _ _ => rfl⟩
theorem Only.trans (h : Only S w w1) (k : Only S' w1 w2) (hs : ∀ b, S' b → S b ∨ w.heap.size ≤ b) : Only S w w2 :=
  ⟨k.os.trans h.os, k.tape.trans h.tape, k.output.trans h.output, Nat.le_trans h.size k.size, fun b hb hn =>
    (k.block b (Nat.lt_of_lt_of_le hb h.size) (fun q => (hs b q).elim hn (fun q' => by omega))).trans (h.block b hb hn)⟩
theorem Only.mono (h : Only S w w') (hs : ∀ b, S b → S' b ∨ w.heap.size ≤ b) : Only S' w w' :=
  ⟨h.os, h.tape, h.output, h.size, fun b hb hn => h.block b hb (fun q => (hs b q).elim hn (fun q' => by omega))⟩
theorem Only.of_below (h : Below w.heap.size w w') (S : Nat → Prop) : Only S w w' := ⟨h.os, h.tape, h.output, h.size, fun b hb _ => h.block b hb⟩
theorem Only.of_grown {row : Option Nat} (h : w.grownBy w' row) (hs : ∀ k, row = some k → S k ∨ w.heap.size ≤ k) : Only S w w' :=
  ⟨h.os, h.tape, h.output, h.size, fun b hb hn => h.block b hb (fun e => (hs b e.symm).elim hn (fun q' => by omega))⟩
theorem Only.grown (h : Only S w w') {row : Option Nat} (hs : ∀ k, S k → some k = row) : w.grownBy w' row :=
  ⟨h.os, h.tape, h.output, h.size, fun b hb hn => h.block b hb (fun q => hn (hs b q))⟩
theorem Only.below (h : Only S w w') {B : Nat} (hB : B ≤ w.heap.size) (hs : ∀ b, S b → B ≤ b) : Below B w w' :=
  ⟨h.os, h.tape, h.output, h.size, fun b hb => h.block b (by omega) (fun q => by have := hs b q; omega)⟩
theorem Only.alloc (h : Only S w w') (o : Obj) : Only S w (w'.alloc o) :=
  h.trans (Only.of_below ((Below.refl _ _).alloc (Nat.le_refl _) o) S) fun b q => .inl q
theorem Only.drewN (h : Only S w w') (n : Nat) : Only S w (w'.drewN n) := ⟨h.os, h.tape, h.output, h.size, h.block⟩
theorem Only.drew (h : Only S w w') : Only S w w'.drew := ⟨h.os, h.tape, h.output, h.size, h.block⟩
theorem Only.setCell (h : Only S w w') {p : Addr} (hp : S p.block ∨ w.heap.size ≤ p.block) (u : Value) : Only S w (w'.setCell p u) :=
  ⟨h.os, h.tape, h.output, by simpa [World.setCell] using h.size, fun b hb hn => (Below.heap_setCell w' p u b (by
    rintro rfl
    rcases hp with q | q
    · exact hn q
    · omega)).trans (h.block b hb hn)⟩
theorem Only.cell (h : Only S w w') {p : Addr} (hp : p.block < w.heap.size) (hs : ¬ S p.block) : w'.cell? p = w.cell? p := World.cell?_of_block (h.block p.block hp hs)
theorem Only.own (h : Only S w w') {base : Nat} {e : TypeId} {size : Nat} {v : Value} {n : Nat} {xs : List Value} (ho : w.ownsRow base e size v n xs) (hs : ∀ k, v.ownBlock = some k → ¬ S k) : w'.ownsRow base e size v n xs := by
  refine ⟨ho.1, ?_⟩
  rcases ho.2 with q | ⟨g, cap, cur, rfl, hb, hgg, rest⟩
  · exact .inl q
  · exact .inr ⟨g, cap, cur, rfl, hb, (h.block g (ho.lt g rfl).2 (hs g rfl)).trans hgg, rest⟩
end

theorem grown_drew {a w : World} {row : Option Nat} (h : a.grownBy w row) : a.grownBy w.drew row := ⟨h.os, h.tape, h.output, h.size, h.block⟩
theorem grown_drewN {a w : World} {row : Option Nat} (h : a.grownBy w row) (n : Nat) : a.grownBy (w.drewN n) row := ⟨h.os, h.tape, h.output, h.size, h.block⟩
/-- The slice at address A reads as the values xs, in blocks of S. -/
def AtIn (w : World) (S : Nat → Prop) (A : Option Addr) (xs : List Value) : Prop :=
  ∀ j (h : j < xs.length), ∃ b o, A = some ⟨b, o, none⟩ ∧ S b ∧ b < w.heap.size ∧ w.cell? ⟨b, o + j, none⟩ = some xs[j]
theorem AtIn.at_ {w : World} {S : Nat → Prop} {A : Option Addr} {xs : List Value} (h : AtIn w S A xs) : At w w.heap.size A xs := fun j hj => by
  obtain ⟨b, o, e, _, hb, hc⟩ := h j hj
  exact ⟨b, o, e, hb, hc⟩
/-- a set of blocks stays as it is -/
def Stays (S : Nat → Prop) (w w' : World) : Prop := w.heap.size ≤ w'.heap.size ∧ ∀ b, S b → b < w.heap.size → w'.heap[b]? = w.heap[b]?
theorem AtIn.stays {w w' : World} {S : Nat → Prop} {A : Option Addr} {xs : List Value} (h : AtIn w S A xs) (hs : Stays S w w') : AtIn w' S A xs := fun j hj => by
  obtain ⟨b, o, e, h1, h2, hc⟩ := h j hj
  exact ⟨b, o, e, h1, Nat.lt_of_lt_of_le h2 hs.1, (World.cell?_of_block (a := ⟨b, o + j, none⟩) (hs.2 b h1 h2)).trans hc⟩
theorem AtIn.mono {w : World} {S S' : Nat → Prop} {A : Option Addr} {xs : List Value} (h : AtIn w S A xs) (hs : ∀ b, S b → S' b) : AtIn w S' A xs := fun j hj => by
  obtain ⟨b, o, e, h1, h2, hc⟩ := h j hj
  exact ⟨b, o, e, hs b h1, h2, hc⟩
theorem Only.stays {S T : Nat → Prop} {w w' : World} (h : Only S w w') (hd : ∀ b, T b → ¬ S b) : Stays T w w' := ⟨h.size, fun b hb hl => h.block b hl (hd b hb)⟩
theorem Stays.trans {S : Nat → Prop} {w w1 w2 : World} (h : Stays S w w1) (k : Stays S w1 w2) : Stays S w w2 := ⟨Nat.le_trans h.1 k.1, fun b hb hl => (k.2 b hb (Nat.lt_of_lt_of_le hl h.1)).trans (h.2 b hb hl)⟩
theorem Stays.mono {S T : Nat → Prop} {w w' : World} (h : Stays S w w') (hs : ∀ b, T b → S b) : Stays T w w' := ⟨h.1, fun b hb hl => h.2 b (hs b hb) hl⟩
def BytesIn (w : World) (S : Nat → Prop) (A : Option Addr) (l : List Nat) : Prop := AtIn w S A (l.map byteV) ∧ Small l
theorem BytesIn.bytes {w : World} {S : Nat → Prop} {A : Option Addr} {l : List Nat} (h : BytesIn w S A l) : Bytes w w.heap.size A l := ⟨h.1.at_, h.2⟩
theorem BytesIn.stays {w w' : World} {S : Nat → Prop} {A : Option Addr} {l : List Nat} (h : BytesIn w S A l) (hs : Stays S w w') : BytesIn w' S A l := ⟨h.1.stays hs, h.2⟩
theorem BytesIn.mono {w : World} {S S' : Nat → Prop} {A : Option Addr} {l : List Nat} (h : BytesIn w S A l) (hs : ∀ b, S b → S' b) : BytesIn w S' A l := ⟨h.1.mono hs, h.2⟩
theorem BytesIn.nil (w : World) (S : Nat → Prop) (A : Option Addr) : BytesIn w S A [] := ⟨fun j hj => absurd hj (by simp), fun x hx => by cases hx⟩
theorem AtIn.own {w : World} {base : Nat} {e : TypeId} {A : Option Addr} {n m c : Nat} {xs : List Value} (h : w.ownsRow base e 1 (.slice A n c) m xs) : AtIn w (fun b => some b = (Value.slice A n c).ownBlock) A xs := fun j hj => by
  obtain ⟨b, o, e', hb, hc⟩ := At.own h j hj
  have hl := h.1
  obtain ⟨g, hA, hg, hg'⟩ : ∃ g, A = some ⟨g, 0, none⟩ ∧ base ≤ g ∧ g < w.heap.size := by
    rcases h.2 with ⟨_, rfl⟩ | ⟨g, cap, cur, hv, hg, _⟩
    · omega
    · injection hv with hA _ _
      subst hA
      exact ⟨g, rfl, h.lt g rfl⟩
  subst hA
  injection e' with e'
  injection e' with e1 e2
  subst e1
  subst e2
  exact ⟨g, 0, rfl, by simp [Value.ownBlock], hb, hc⟩

/-- Block g is just these cells. -/
def Blk (w : World) (g : Nat) (t : TypeId) (cs : Array Value) : Prop := w.heap[g]? = some (.cells cs t (0, 0))
section
variable {w w' : World} {g : Nat} {t : TypeId} {cs : Array Value}
theorem Blk.lt (h : Blk w g t cs) : g < w.heap.size := by
  rcases Nat.lt_or_ge g w.heap.size with hlt | hge
  · exact hlt
  · unfold Blk at h; rw [Array.getElem?_eq_none hge] at h; cases h
theorem Blk.cell (h : Blk w g t cs) : ∀ i, w.cell? ⟨g, i, none⟩ = cs[i]? := fun i => by
  unfold Blk at h
  simp only [World.cell?, h]
  simp
theorem Blk.frozen (h : Blk w g t cs) : ∀ i, w.frozen? ⟨g, i, none⟩ = false := fun i => by
  unfold Blk at h
  simp [World.frozen?, h]
theorem Blk.new (w : World) (t : TypeId) (cs : Array Value) : Blk (w.alloc (.cells cs t)) w.heap.size t cs := heap_alloc_new w _
theorem Blk.drew (h : Blk w g t cs) : Blk w.drew g t cs := h
theorem Blk.drewN (h : Blk w g t cs) (n : Nat) : Blk (w.drewN n) g t cs := h
theorem Blk.alloc (h : Blk w g t cs) (o : Obj) : Blk (w.alloc o) g t cs := (Below.heap_alloc w o g h.lt).trans h
theorem Blk.set_ (h : Blk w g t cs) (i : Nat) (u : Value) : Blk (w.setCell ⟨g, i, none⟩ u) g t (cs.setIfInBounds i u) := by
  unfold Blk at h ⊢
  simp [World.setCell, Array.getElem?_modify, h]
theorem Blk.far (h : Blk w g t cs) {p : Addr} (hp : g ≠ p.block) (u : Value) : Blk (w.setCell p u) g t cs := (Below.heap_setCell w p u g hp).trans h
theorem Blk.below {B : Nat} (h : Blk w g t cs) (hb : Below B w w') (hg : g < B) : Blk w' g t cs := (hb.block g hg).trans h
theorem Blk.grown {row : Option Nat} (h : Blk w g t cs) (hb : w.grownBy w' row) (hg : some g ≠ row) : Blk w' g t cs := (hb.block g h.lt hg).trans h
theorem Blk.only {S : Nat → Prop} (h : Blk w g t cs) (hb : Only S w w') (hg : ¬ S g) : Blk w' g t cs := (hb.block g h.lt hg).trans h
theorem Blk.ne_ {g' : Nat} {t' : TypeId} {cs' : Array Value} (h : Blk w g t cs) (h' : Blk w g' t' cs') (hne : t ≠ t') : g ≠ g' := by
  rintro rfl
  unfold Blk at h h'
  rw [h] at h'
  injection h' with h'
  injection h' with _ ht
  exact hne ht
end
theorem below_drew0 (w : World) : Below w.heap.size w w.drew := (Below.refl _ _).drew
end Go.Proofs.Ytkganajbilnanaa


/- Words for slices of slices of bytes. Conditions: none; no program in sight. -/
namespace Go.Proofs.Ytkganajbilnanaa
open Go.RowKit
set_option linter.unusedVariables false

/-- This value is a slice that owns the bytes l (5: uint8's number). -/
def RowIs (w : World) (base : Nat) (v : Value) (l : List Nat) : Prop := (∃ A c, v = .slice A l.length c) ∧ w.ownsRow base 5 1 v l.length (l.map byteV) ∧ Small l
/-- Each of these values .. -/
def Rows (w : World) (base : Nat) (L : List Value) (ls : List (List Nat)) : Prop := L.length = ls.length ∧ ∀ (j : Nat) (v : Value) (l : List Nat), L[j]? = some v → ls[j]? = some l → RowIs w base v l

theorem Rows.nil (w : World) (base : Nat) : Rows w base [] [] := ⟨rfl, fun j v l h => by simp at h⟩
theorem Rows.imp {w w' : World} {base : Nat} {L : List Value} {ls : List (List Nat)} (h : Rows w base L ls) (f : ∀ (v : Value) (l : List Nat), w.ownsRow base 5 1 v l.length (l.map byteV) → w'.ownsRow base 5 1 v l.length (l.map byteV)) : Rows w' base L ls :=
  ⟨h.1, fun j v l hv hl => by
    obtain ⟨h1, h2, h3⟩ := h.2 j v l hv hl
    exact ⟨h1, f v l h2, h3⟩⟩
theorem Rows.snoc {w : World} {base : Nat} {L : List Value} {ls : List (List Nat)} (h : Rows w base L ls) {v : Value} {l : List Nat} (hv : RowIs w base v l) : Rows w base (L ++ [v]) (ls ++ [l]) :=
  ⟨by simp [h.1], fun j u m hu hm => by
    rcases Nat.lt_trichotomy j L.length with q | q | q
    · rw [List.getElem?_append_left q] at hu
      rw [List.getElem?_append_left (by rw [← h.1]; exact q)] at hm
      exact h.2 j u m hu hm
    · subst q
      rw [List.getElem?_append_right (Nat.le_refl _)] at hu
      rw [List.getElem?_append_right (by rw [h.1]; exact Nat.le_refl _), h.1] at hm
      simp at hu hm
      subst hu
      subst hm
      exact hv
    · rw [List.getElem?_eq_none (by simp; omega)] at hu
      cases hu⟩

/-- Two rows of unlike types are two rows. -/
theorem own_apart {w : World} {b b' : Nat} {e e' : TypeId} (hne : e ≠ e') {s s' : Nat} {v v' : Value} {n n' : Nat} {xs xs' : List Value} (h : w.ownsRow b e s v n xs) (h' : w.ownsRow b' e' s' v' n' xs') : v.ownBlock = none ∨ v.ownBlock ≠ v'.ownBlock := by
  rcases h.2 with ⟨rfl, _⟩ | ⟨g, cap, cur, rfl, _, hgb, _⟩
  · exact .inl rfl
  · right
    rcases h'.2 with ⟨rfl, _⟩ | ⟨g', cap', cur', rfl, _, hgb', _⟩
    · simp [Value.ownBlock]
    · intro e
      obtain rfl : g = g' := by simpa [Value.ownBlock] using e
      rw [hgb] at hgb'
      simp at hgb'
      exact hne hgb'.2
/-- .. and a row and a block of another type. -/
theorem own_block {w : World} {b : Nat} {e e' : TypeId} (hne : e ≠ e') {s : Nat} {v : Value} {n : Nat} {xs : List Value} (h : w.ownsRow b e s v n xs) {B : Nat} {cs : Array Value} {f : Nat × Nat} (hB : w.heap[B]? = some (.cells cs e' f)) : v.ownBlock = none ∨ v.ownBlock ≠ some B := by
  rcases h.2 with ⟨rfl, _⟩ | ⟨g, cap, cur, rfl, _, hgb, _⟩
  · exact .inl rfl
  · right
    intro e
    obtain rfl : g = B := by simpa [Value.ownBlock] using e
    rw [hgb] at hB
    simp at hB
    exact hne hB.2.1

theorem Rows.set {w : World} {base : Nat} {L : List Value} {ls : List (List Nat)} (h : Rows w base L ls) (i : Nat) {v : Value} {l : List Nat} (hv : RowIs w base v l) : Rows w base (L.set i v) (ls.set i l) :=
  ⟨by rw [List.length_set, List.length_set, h.1], fun j u m hu hm => by
    rw [List.getElem?_set] at hu hm
    by_cases e : i = j
    · rw [if_pos e] at hu hm
      split at hu
      · split at hm
        · cases hu; cases hm; exact hv
        · cases hm
      · cases hu
    · rw [if_neg e] at hu hm
      exact h.2 j u m hu hm⟩
theorem below_none {w w' : World} (h : Below w.heap.size w w') : w.grownBy w' none := ⟨h.os, h.tape, h.output, h.size, fun i hi _ => h.block i hi⟩
theorem kept_none {w w' : World} (h : w.grownBy w' none) {base : Nat} {e : TypeId} {s : Nat} {v : Value} {n : Nat} {xs : List Value} (ho : w.ownsRow base e s v n xs) : w'.ownsRow base e s v n xs := ho.kept h (by cases h : v.ownBlock <;> simp)

theorem Rows.imp' {w w' : World} {base base' : Nat} {L : List Value} {ls : List (List Nat)} (h : Rows w base L ls) (f : ∀ (v : Value) (l : List Nat), w.ownsRow base 5 1 v l.length (l.map byteV) → w'.ownsRow base' 5 1 v l.length (l.map byteV)) : Rows w' base' L ls :=
  ⟨h.1, fun j v l hv hl => by
    obtain ⟨h1, h2, h3⟩ := h.2 j v l hv hl
    exact ⟨h1, f v l h2, h3⟩⟩
theorem own_none {w : World} {b : Nat} {e : TypeId} {s : Nat} {v : Value} {n : Nat} {xs : List Value} : v.ownBlock = none ∨ v.ownBlock ≠ none := by
  cases h : v.ownBlock <;> simp
theorem Rows.grown {w w' : World} {base : Nat} {L : List Value} {ls : List (List Nat)} (h : Rows w base L ls) (hg : w.grownBy w' Option.none) : Rows w' base L ls :=
  h.imp fun v l ho => ho.kept hg (by cases h : v.ownBlock <;> simp)

theorem own_base {w : World} {b b' : Nat} {e : TypeId} {s : Nat} {v : Value} {n : Nat} {xs : List Value} (hb : b' ≤ b) (h : w.ownsRow b e s v n xs) : w.ownsRow b' e s v n xs := by
  refine ⟨h.1, ?_⟩
  rcases h.2 with h' | ⟨g, cap, cur, h1, h2, h3⟩
  · exact .inl h'
  · exact .inr ⟨g, cap, cur, h1, by omega, h3⟩
/-- Values that are slices which read as these lists. -/
def Reads (w : World) (B : Nat) (L : List Value) (ls : List (List Nat)) : Prop := L.length = ls.length ∧ ∀ (j : Nat) (l : List Nat), ls[j]? = some l → ∃ A c, L[j]? = some (.slice A l.length c) ∧ l.length ≤ c ∧ Bytes w B A l
theorem Reads.below {w w' : World} {B : Nat} {L : List Value} {ls : List (List Nat)} (h : Reads w B L ls) (hb : Below B w w') : Reads w' B L ls := ⟨h.1, fun j l hl => by
  obtain ⟨A, c, h1, h2, h3⟩ := h.2 j l hl
  exact ⟨A, c, h1, h2, h3.below hb⟩⟩
theorem Rows.reads {w : World} {base : Nat} {L : List Value} {ls : List (List Nat)} (h : Rows w base L ls) : Reads w w.heap.size L ls := ⟨h.1, fun j l hl => by
  have hj : j < L.length := by
    rw [h.1]
    exact (List.getElem?_eq_some_iff.1 hl).1
  obtain ⟨⟨A, c, e⟩, h2, h3⟩ := h.2 j _ l (List.getElem?_eq_getElem hj) hl
  rw [e] at h2
  obtain ⟨A', c', e', hc, _⟩ := own_form h2
  injection e' with e1 e2 e3
  exact ⟨A, c, by rw [List.getElem?_eq_getElem hj, e], by omega, own_bytes h2 h3⟩⟩

theorem Reads.more {w : World} {B B' : Nat} {L : List Value} {ls : List (List Nat)} (h : Reads w B L ls) (hB : B ≤ B') : Reads w B' L ls := ⟨h.1, fun j l hl => by
  obtain ⟨A, c, h1, h2, h3⟩ := h.2 j l hl
  exact ⟨A, c, h1, h2, h3.more hB⟩⟩

theorem own_cap {w : World} {base : Nat} {e : TypeId} {size : Nat} {A : Option Addr} {n c : Nat} {xs : List Value} (h : w.ownsRow base e size (.slice A n c) n xs) : n ≤ c := by
  obtain ⟨A', c', e', hc, _⟩ := own_form h
  injection e' with _ _ e3
  omega
theorem Reads.take {w : World} {B : Nat} {L : List Value} {ls : List (List Nat)} (h : Reads w B L ls) (n : Nat) : Reads w B (L.take n) (ls.take n) := ⟨by simp [h.1], fun j l hl => by
  rw [List.getElem?_take] at hl
  split at hl
  · rename_i hj
    obtain ⟨A, c, h1, h2, h3⟩ := h.2 j l hl
    exact ⟨A, c, by rw [List.getElem?_take, if_pos hj]; exact h1, h2, h3⟩
  · cases hl⟩

def RetRows (ls : List (List Nat)) (w : World) (e : Ending) (w' : World) : Prop :=
  ∃ A c L, e = .returned (.slice A ls.length c) ∧ w'.ownsRow w.heap.size 26 1 (.slice A ls.length c) ls.length L ∧ Rows w' w.heap.size L ls ∧ Below w.heap.size w w'
theorem RetRows.is {ls : List (List Nat)} {w : World} {e : Ending} {w' : World} (h : RetRows ls w e w') : ∃ A c L, e = .returned (.slice A ls.length c) ∧ w'.ownsRow w.heap.size 26 1 (.slice A ls.length c) ls.length L ∧ Rows w' w.heap.size L ls ∧ Below w.heap.size w w' ∧ At w' w'.heap.size A L ∧ Reads w' w'.heap.size L ls := by
  obtain ⟨A, c, L, h1, h2, h3, h4⟩ := h
  exact ⟨A, c, L, h1, h2, h3, h4, At.own h2, h3.reads⟩

theorem reads_at {w : World} {B : Nat} {A : Option Addr} {L : List Value} {ls : List (List Nat)} (h1 : At w B A L) (h : Reads w B L ls) {k : Nat} (hk : k < ls.length) :
    ∃ b o A' c', A = some ⟨b, o, none⟩ ∧ b < B ∧ w.cell? ⟨b, o + k, none⟩ = some (.slice A' ls[k].length c') ∧ ls[k].length ≤ c' ∧ Bytes w B A' ls[k] := by
  obtain ⟨A1, c1, e1, hc1, b1⟩ := h.2 k _ (List.getElem?_eq_getElem hk)
  obtain ⟨b, o, e, hb, q⟩ := h1 k (by rw [h.1]; exact hk)
  rw [← List.getElem?_eq_getElem, e1] at q
  exact ⟨b, o, A1, c1, e, hb, q, hc1, b1⟩

theorem replicate_small (n : Nat) : Small (List.replicate n 0) := fun x hx => by rw [(List.mem_replicate.1 hx).2]; omega

end Go.Proofs.Ytkganajbilnanaa


/- What a proof's frame tells the walk of each argument: one predicate a type, and that whatever reads by the type has it. Conditions: none; no program in sight. -/
namespace Go.Proofs.Ytkganajbilnanaa
open Go.ChangeShapes Go.WideShapes Go.RowKit Go.Deep
set_option linter.unusedVariables false
set_option linter.unusedSimpArgs false

def IsInt (k : IntKind) (_w : World) (v : Value) : Prop := ∃ a, v = .int k a ∧ (Lit.int k a).wf = true
def IsBool (_w : World) (v : Value) : Prop := ∃ b, v = .bool b
/-- a slice of bytes -/
def IsBytes (w : World) (v : Value) : Prop := ∃ A c l, v = .slice A l.length c ∧ l.length ≤ c ∧ c ≤ maxLen ∧ Bytes w w.heap.size A l
/-- a slice of slices of bytes -/
def IsBlocks (w : World) (v : Value) : Prop := ∃ A c L ls, v = .slice A ls.length c ∧ ls.length ≤ c ∧ c ≤ maxLen ∧ At w w.heap.size A L ∧ Reads w w.heap.size L ls

theorem addr_form {w : World} {x : Addr} {v : Value} (h : w.cell? (x.add 0) = some v) : ∃ b o, x = ⟨b, o, none⟩ ∧ b < w.heap.size := by
  have hsp := World.cell?_spot h
  obtain ⟨b, o, sp⟩ := x
  have hsp' : sp = none := by simpa [Addr.add] using hsp
  subst hsp'
  refine ⟨b, o, rfl, ?_⟩
  rcases Nat.lt_or_ge b w.heap.size with q | q
  · exact q
  · simp only [World.cell?, Addr.add, if_pos] at h
    rw [Array.getElem?_eq_none q] at h
    cases h
theorem add_none (b o j : Nat) : (⟨b, o, none⟩ : Addr).add j = ⟨b, o + j, none⟩ := by
  unfold Addr.add
  split
  · subst_vars; rfl
  · rfl
theorem at_of {w : World} {x : Addr} {n : Nat} (V : Nat → Value) (h : ∀ r, r < n → w.cell? (x.add r) = some (V r)) : At w w.heap.size (some x) ((List.range n).map V) := fun j hj => by
  have hj' : j < n := by simpa using hj
  obtain ⟨b, o, rfl, hb⟩ := addr_form (h 0 (by omega))
  refine ⟨b, o, rfl, hb, ?_⟩
  rw [← add_none, h j hj']
  simp

theorem bytes_of {w : World} {A : Option Addr} {len cap : Nat} {zs : List Int} (hl : len ≤ cap) (hz : zs.length = cap) (hw : ∀ n ∈ zs, (Lit.int .u8 n).wf = true) (hn : A = none → cap = 0)
    (hc : ∀ a, A = some a → ∀ c, c < cap → w.cell? (a.add c) = some (.int .u8 (zs.getD c 0))) : ∃ l : List Nat, l.length = len ∧ Bytes w w.heap.size A l := by
  refine ⟨(zs.take len).map Int.toNat, by simp; omega, ?_, ?_⟩
  · cases A with
    | none =>
      have : len = 0 := by have := hn rfl; omega
      subst this
      exact At.nil _ _ _
    | some x =>
      have := at_of (w := w) (x := x) (n := len) (fun c => .int .u8 (zs.getD c 0)) (fun r hr => hc x rfl r (by omega))
      have e : ((List.range len).map fun c => Value.int .u8 (zs.getD c 0)) = ((zs.take len).map Int.toNat).map byteV := by
        apply List.ext_getElem
        · simp; omega
        · intro i h1 h2
          have hi : i < zs.length := by simp at h1; omega
          simp only [List.getElem_map, List.getElem_range, byteV, List.getElem_take]
          have hb := wf_u8 (hw zs[i] (List.getElem_mem hi))
          rw [List.getD_eq_getElem?_getD, List.getElem?_eq_getElem hi, Option.getD_some]
          congr 1
          omega
      rwa [e] at this
  · intro x hx
    obtain ⟨y, hy, rfl⟩ := List.mem_map.1 hx
    have := wf_u8 (hw y (List.mem_of_mem_take hy))
    omega

section
variable {H : Type} {enc : TypeId × Value → H} {P : Program} {w : World} {base : Nat} {held : Bool} {t : TypeId} {v : Value} {d : DataW H} {p : List MemPlace}
theorem is_int {k : IntKind} (ht : P.underlying t = some (.int k)) (hv : Value.okWide P w .any base t v) (h : DataW.Trod enc P w 0 (fun _ => true) held t v d p) : IsInt k w v := by
  obtain ⟨a, rfl, _, _, hw⟩ := open_int ht hv h
  exact ⟨a, rfl, hw⟩
theorem is_bool (ht : P.underlying t = some .bool) (hv : Value.okWide P w .any base t v) (h : DataW.Trod enc P w 0 (fun _ => true) held t v d p) : IsBool w v := by
  obtain ⟨a, rfl, _, _⟩ := open_bool ht hv h
  exact ⟨a, rfl⟩
/-- the cell of a slice of bytes -/
theorem bytes_trod {q : TypeId} {fuel : Nat} {x : DataW H × List MemPlace} {b0 : Nat} (ht : P.underlying t = some (.slice q)) (hq : P.underlying q = some (.int .u8)) (cq : P.cellsOf q = 1)
    (h : DataW.trod enc P w b0 (fun _ => true) held fuel t [v] = some x) : IsBytes w v := by
  rcases open_ints ht hq cq h with ⟨hcs, _⟩ | ⟨a, len, cap, zs, hcs, _, hl, hm, hz, _, hcell, hwz⟩
  · simp only [List.cons.injEq, and_true] at hcs
    exact ⟨none, 0, [], hcs, Nat.le_refl _, Nat.zero_le _, Bytes.nil _ _ _⟩
  · simp only [List.cons.injEq, and_true] at hcs
    obtain ⟨l, e, hb⟩ := bytes_of (w := w) (A := some a) hl (by simpa using hz) hwz (fun h => by cases h) (fun a' h' c hc => by cases h'; exact hcell c (by simp at hz; omega))
    subst e
    exact ⟨some a, cap, l, hcs, hl, hm, hb⟩
theorem is_bytes {q : TypeId} (ht : P.underlying t = some (.slice q)) (hq : P.underlying q = some (.int .u8)) (cq : P.cellsOf q = 1) (hv : Value.okWide P w .any base t v) (h : DataW.Trod enc P w 0 (fun _ => true) held t v d p) : IsBytes w v := by
  obtain ⟨a, len, cap, rfl⟩ := okWide_slice ht hv
  obtain ⟨fuel, hf⟩ := h
  exact bytes_trod ht hq cq (by simpa [Value.cells] using hf)
theorem blocks_trod {e q : TypeId} {fuel : Nat} {x : DataW H × List MemPlace} {b0 : Nat} (ht : P.underlying t = some (.slice e)) (he : P.underlying e = some (.slice q)) (hq : P.underlying q = some (.int .u8)) (ce : P.cellsOf e = 1) (cq : P.cellsOf q = 1)
    (h : DataW.trod enc P w b0 (fun _ => true) held fuel t [v] = some x) : IsBlocks w v := by
  rcases open_int_rows ht he hq ce cq h with ⟨hcs, _⟩ | ⟨a, len, cap, A, L, C, Z, hcs, _, hl, hm, _, hr⟩
  · simp only [List.cons.injEq, and_true] at hcs
    exact ⟨none, 0, [], [], hcs, Nat.le_refl _, Nat.zero_le _, At.nil _ _ _, rfl, fun j l h => by simp at h⟩
  · simp only [List.cons.injEq, and_true] at hcs
    have each : ∀ r, r < len → ∃ l : List Nat, l.length = L r ∧ Bytes w w.heap.size (A r) l := fun r hr' => by
      obtain ⟨h1, h2, h3, h4, h5, h6, h7⟩ := hr r (by omega)
      exact bytes_of h2 h4 h5 h6 (fun a' ha' c hc => (h7 a' ha').2 c hc)
    obtain ⟨l, hl'⟩ := choose_lt each
    refine ⟨some a, cap, (List.range len).map fun r => .slice (A r) (L r) (C r), (List.range len).map l, by rw [List.length_map, List.length_range]; exact hcs, by simpa using hl, hm, at_of _ fun r hr' => (hr r (by omega)).1, by simp, fun j m hj => ?_⟩
    rw [List.getElem?_map] at hj
    have hjn : j < len := by
      rcases Nat.lt_or_ge j len with q | q
      · exact q
      · rw [List.getElem?_eq_none (by simpa using q)] at hj; cases hj
    rw [List.getElem?_range hjn] at hj
    simp only [Option.map_some, Option.some.injEq] at hj
    subst hj
    refine ⟨A j, C j, ?_, ?_, (hl' j hjn).2⟩
    · rw [List.getElem?_map, List.getElem?_range hjn, (hl' j hjn).1]; rfl
    · rw [(hl' j hjn).1]; exact (hr j (by omega)).2.1
theorem is_blocks {e q : TypeId} (ht : P.underlying t = some (.slice e)) (he : P.underlying e = some (.slice q)) (hq : P.underlying q = some (.int .u8)) (ce : P.cellsOf e = 1) (cq : P.cellsOf q = 1) (hv : Value.okWide P w .any base t v) (h : DataW.Trod enc P w 0 (fun _ => true) held t v d p) : IsBlocks w v := by
  obtain ⟨a, len, cap, rfl⟩ := okWide_slice ht hv
  obtain ⟨fuel, hf⟩ := h
  exact blocks_trod ht he hq ce cq (by simpa [Value.cells] using hf)
end
end Go.Proofs.Ytkganajbilnanaa


/- append inside a statement that draws its order; a region's calls made cheap. Conditions: none; no program in sight. -/
namespace Go.Proofs.Ytkganajbilnanaa
open Go.RowKit
set_option linter.unusedVariables false

theorem wp_append_at {P : Program} {w : World} {o : Oper} {a : Act} {K : Act → World → Prop} {Q : Exit → Act → World → Prop} (s x : Operand) (t t' : TypeId)
    (ho : o.op = .call { callee := .builtin .append, args := #[s, x], argTypes := #[t, t'] })
    (base : Nat) (e : TypeId) (i : TypeInfo) (z : Value) (bytes : Nat) (ht : P.underlying t = some (.slice e)) (ht' : P.underlying t' = some (.slice e)) (hi : P.info? e = some i) (hz : i.zero = some z)
    (hsize : i.size = 1) (hby : i.bytes = bytes) (hzs : z.cells.size = 1) (v : Value) (n : Nat) (xs : List Value) (hs : a.eval s = v) (hown : w.ownsRow base e 1 v n xs)
    (B : Nat) (A : Option Addr) (m c : Nat) (news : List Value) (hx : a.eval x = .slice A m c) (hm : news.length = m) (hr : At w B A news) (h1 : ∀ u ∈ news, u.oneCell' = true)
    (h63 : n + m ≤ maxLen) (hbytes : (n + m) * bytes ≤ 140737488355328) (hbase : base ≤ w.heap.size)
    (h : ∀ A' c' w', w'.ownsRow base e 1 (.slice A' (n + m) c') (n + m) (xs ++ news) → w.grownBy w' v.ownBlock → ((Value.slice A' (n + m) c').ownBlock = v.ownBlock ∨ (Value.slice A' (n + m) c').ownBlock = some w.heap.size) →
      K (a.put o.dst (.slice A' (n + m) c')) w') : o.wp P a w K Q := by
  have key : (Builtin.append_ #[t, t'] o.type #[v, .slice A m c]).run P w = (Builtin.append_ #[t, t] o.type #[v, .slice A m c]).run P w := by
    rcases hown.2 with ⟨rfl, rfl⟩ | ⟨g, cap, cur, rfl, _⟩ <;> cases A <;> simp [Builtin.append_, run_underlying ht, run_underlying ht']
  obtain ⟨A', c', w', hrun, h2, h3, h4⟩ := run_append_at (P := P) w base t o.type e i z bytes ht hi hz hsize hby hzs v n xs hown B A m c news hm hr h1 h63 hbytes hbase
  rw [← key] at hrun
  unfold Oper.wp execOp
  simp only [ho, resolve, invoke, builtin, Sem.run_bind, Sem.run_pure, Result.andThen_ok, List.map_toArray, List.map_cons, List.map_nil, hs, hx, hrun]
  exact h A' c' w' h2 h3 h4
theorem step_append_at {P : Program} {w : World} {ops : Array Oper} {o : Oper} {a : Act} {K : Act → World → Prop} {Q : Exit → Act → World → Prop} {E : Prop} (hgd : o.guard = none) (s x : Operand) (t t' : TypeId)
    (ho : o.op = .call { callee := .builtin .append, args := #[s, x], argTypes := #[t, t'] })
    (base : Nat) (e : TypeId) (i : TypeInfo) (z : Value) (bytes : Nat) (ht : P.underlying t = some (.slice e)) (ht' : P.underlying t' = some (.slice e)) (hi : P.info? e = some i) (hz : i.zero = some z)
    (hsize : i.size = 1) (hby : i.bytes = bytes) (hzs : z.cells.size = 1) (v : Value) (n : Nat) (xs : List Value) (hs : a.eval s = v) (hown : w.ownsRow base e 1 v n xs)
    (B : Nat) (A : Option Addr) (m c : Nat) (news : List Value) (hx : a.eval x = .slice A m c) (hm : news.length = m) (hr : At w B A news) (h1 : ∀ u ∈ news, u.oneCell' = true)
    (h63 : n + m ≤ maxLen) (hbytes : (n + m) * bytes ≤ 140737488355328) (hbase : base ≤ w.heap.size)
    (h : ∀ A' c' w', w'.ownsRow base e 1 (.slice A' (n + m) c') (n + m) (xs ++ news) → w.grownBy w' v.ownBlock → ((Value.slice A' (n + m) c').ownBlock = v.ownBlock ∨ (Value.slice A' (n + m) c').ownBlock = some w.heap.size) →
      K (a.put o.dst (.slice A' (n + m) c')) w') : if Region.wanted o (yielded ops a.tmps) = true then Oper.wp P o a w K Q else E := by
  have hw : Region.wanted o (yielded ops a.tmps) = true := by simp [Region.wanted, hgd]
  rw [if_pos hw]
  exact wp_append_at s x t t' ho base e i z bytes ht ht' hi hz hsize hby hzs v n xs hs hown B A m c news hx hm hr h1 h63 hbytes hbase h
theorem wpList_append_at2 {P : Program} {w : World} {ops : Array Oper} {rest : List Oper} {o : Oper} {a : Act} {Q : Exit → Act → World → Prop} (hgd : o.guard = none) (s x : Operand) (t t' : TypeId)
    (ho : o.op = .call { callee := .builtin .append, args := #[s, x], argTypes := #[t, t'] })
    (base : Nat) (e : TypeId) (i : TypeInfo) (z : Value) (bytes : Nat) (ht : P.underlying t = some (.slice e)) (ht' : P.underlying t' = some (.slice e)) (hi : P.info? e = some i) (hz : i.zero = some z)
    (hsize : i.size = 1) (hby : i.bytes = bytes) (hzs : z.cells.size = 1) (v : Value) (n : Nat) (xs : List Value) (hs : a.eval s = v) (hown : w.ownsRow base e 1 v n xs)
    (B : Nat) (A : Option Addr) (m c : Nat) (news : List Value) (hx : a.eval x = .slice A m c) (hm : news.length = m) (hr : At w B A news) (h1 : ∀ u ∈ news, u.oneCell' = true)
    (h63 : n + m ≤ maxLen) (hbytes : (n + m) * bytes ≤ 140737488355328) (hbase : base ≤ w.heap.size)
    (h : ∀ A' c' w', w'.ownsRow base e 1 (.slice A' (n + m) c') (n + m) (xs ++ news) → w.grownBy w' v.ownBlock → ((Value.slice A' (n + m) c').ownBlock = v.ownBlock ∨ (Value.slice A' (n + m) c').ownBlock = some w.heap.size) →
      wpList P ops Q rest (a.put o.dst (.slice A' (n + m) c')) w') : wpList P ops Q (o :: rest) a w :=
  wpList_plain hgd fun _ hK => wp_append_at s x t t' ho base e i z bytes ht ht' hi hz hsize hby hzs v n xs hs hown B A m c news hx hm hr h1 h63 hbytes hbase fun A' c' w' h2 h3 h4 => hK _ _ (h A' c' w' h2 h3 h4)
end Go.Proofs.Ytkganajbilnanaa


/- The contracts of SameBlocks and Sectors. Conditions: what is handed in reads as bytes. -/
namespace Go.Proofs.Ytkganajbilnanaa
open Go.ChangeShapes Go.WideShapes Go.ChangeAt Go.RowKit
set_option linter.unusedVariables false
set_option linter.unusedSimpArgs false
set_option maxRecDepth 20000

theorem strB_bne {l m : List Nat} (hl : Small l) (hm : Small m) : ((strB l).toList != (strB m).toList) = !decide (l = m) := by
  rw [bne, strB_beq hl hm]

/-- not more than m lists, none longer than 200 -/
def sectB (ls : List (List Nat)) (m : Nat) : Bool := decide (ls.length ≤ m) && ls.all fun l => decide (l.length ≤ 200)
theorem sectB_le {ls : List (List Nat)} {m : Nat} (h : sectB ls m = true) : ls.length ≤ m ∧ ∀ l ∈ ls, l.length ≤ 200 := by
  unfold sectB at h
  rw [Bool.and_eq_true, decide_eq_true_iff, List.all_eq_true] at h
  exact ⟨h.1, fun l hl => by simpa using h.2 l hl⟩
theorem sectB_no {ls : List (List Nat)} {m k : Nat} (hk : k < ls.length) (h : ¬ ls[k].length ≤ 200) : sectB ls m = false := by
  rw [Bool.eq_false_iff]
  intro e
  exact h ((sectB_le e).2 _ (List.getElem_mem hk))
end Go.Proofs.Ytkganajbilnanaa


/- Several blocks that are known whole, at once. Conditions: none; no program in sight. -/
namespace Go.Proofs.Ytkganajbilnanaa
open Go.RowKit
set_option linter.unusedVariables false

/-- Each of these blocks is just these cells. -/
def Blks (w : World) (L : List (Nat × TypeId × Array Value)) : Prop := ∀ x ∈ L, Blk w x.1 x.2.1 x.2.2
section
variable {w w' : World} {L : List (Nat × TypeId × Array Value)}
theorem Blks.nil (w : World) : Blks w [] := fun x hx => by cases hx
theorem Blks.cons {g : Nat} {t : TypeId} {cs : Array Value} (h : Blk w g t cs) (hs : Blks w L) : Blks w ((g, t, cs) :: L) := fun x hx => by
  rcases List.mem_cons.1 hx with rfl | hx
  · exact h
  · exact hs x hx
theorem Blks.below (h : Blks w L) (hb : Below w.heap.size w w') : Blks w' L := fun x hx => (h x hx).below hb (h x hx).lt
theorem Blks.alloc (h : Blks w L) (o : Obj) : Blks (w.alloc o) L := fun x hx => (h x hx).alloc o
theorem Blks.drew (h : Blks w L) : Blks w.drew L := h
theorem Blks.drewN (h : Blks w L) (n : Nat) : Blks (w.drewN n) L := h
theorem Blks.new (h : Blks w L) (t : TypeId) (cs : Array Value) : Blks (w.alloc (.cells cs t)) ((w.heap.size, t, cs) :: L) := Blks.cons (Blk.new w t cs) (h.alloc _)
theorem Blks.head {g : Nat} {t : TypeId} {cs : Array Value} (h : Blks w ((g, t, cs) :: L)) : Blk w g t cs := h _ (List.mem_cons_self ..)
theorem Blks.tail {x : Nat × TypeId × Array Value} (h : Blks w (x :: L)) : Blks w L := fun y hy => h y (List.mem_cons_of_mem _ hy)
theorem Blks.lt (h : Blks w L) : ∀ x ∈ L, x.1 < w.heap.size := fun x hx => (h x hx).lt
end
end Go.Proofs.Ytkganajbilnanaa


/- slices.Clone of bytes: a copy of its own. Conditions: not longer than 1000000. -/
namespace Go.Proofs.Ytkganajbilnanaa
open Go.ChangeShapes Go.WideShapes Go.ChangeAt Go.RowKit
set_option linter.unusedVariables false
set_option linter.unusedSimpArgs false

theorem own_empty (w : World) (t : TypeId) : (w.alloc (.cells #[] t)).ownsRow w.heap.size t 1 (.slice (some ⟨w.heap.size, 0, none⟩) 0 0) 0 [] :=
  ⟨rfl, .inr ⟨w.heap.size, 0, #[], rfl, Nat.le_refl _, heap_alloc_new w _, Nat.le_refl _, Nat.zero_le _, rfl, rfl⟩⟩
set_option maxHeartbeats 1000000 in
theorem clone_any (A : Option Addr) (c : Nat) (l : List Nat) (B : Nat) (w : World) (h : Bytes w B A l) (hB : B ≤ w.heap.size) (hl : l.length ≤ 1000000) :
    Calls Try.prog 56 #[.slice A l.length c] w (RetBytes 5 l w) := by
  obtain ⟨i0, hi0, hz0, hz1, hz2⟩ := info_parts u8_info
  cases A with
  | none =>
    have e : l = [] := by
      rcases Nat.eq_zero_or_pos l.length with q | q
      · exact List.length_eq_zero_iff.1 q
      · obtain ⟨b, o, e, _⟩ := h.at_ q; cases e
    subst e
    have hq := fun W => run_eql_slice_nil (P := Try.prog) W 26 5 none 0 c Try.underlying26
    go_enter Try.func56, Try.ntmps56
    go_wp2
    go_ret
    exact ⟨none, 0, rfl, World.ownsRow_nil _ _ _ _, Below.refl _ _, fun x hx => by cases hx⟩
  | some a =>
    have hq := fun W => run_eql_slice_nil (P := Try.prog) W 26 5 (some a) l.length c Try.underlying26
    have h2 : Bytes (w.alloc (.cells #[] 5)) B (some a) l := h.alloc hB _
    have ho := own_empty w 5
    have hb0 : Below w.heap.size w (w.alloc (.cells #[] 5)) := (Below.refl _ _).alloc (Nat.le_refl _) _
    go_enter Try.func56, Try.ntmps56
    go_wp2_with (at_builtin; refine wpList_append_at2 rfl _ _ 26 26 rfl w.heap.size 5 i0 _ 1 Try.underlying26 Try.underlying26 hi0 hz0 hz1 hz2 rfl (.slice (some ⟨w.heap.size, 0, none⟩) 0 0) 0 [] rfl ho B (some a) l.length c (l.map byteV) rfl (by rw [List.length_map]) h2.1 (bytes_oneCell _) (by unfold maxLen; omega) (by omega) hb0.size ?_; intro A1 c1 w1 hown hg hat)
    go_ret
    refine ⟨A1, c1, ret_slice (by simp), ?_, below_own hb0 hg ho (Nat.le_refl _) hb0.size, h.2⟩
    simpa using hown
end Go.Proofs.Ytkganajbilnanaa


/- Numbers of chapter 1 as plain numbers: long ones, bytes, signs, turning. Conditions: none; no program in sight. -/
namespace Go.Proofs.Ytkganajbilnanaa.NumMath

/-! long numbers -/
def dec : List Nat → Nat
  | [] => 0
  | c :: l => c % 128 + 128 * dec l
def longF : Nat → Nat → List Nat
  | 0, n => [n]
  | f + 1, n => if n < 128 then [n] else (n % 128 + 128) :: longF f (n / 128)
def longL (n : Nat) : List Nat := longF 10 n

theorem longF_dec (f n : Nat) (h : n < 128 ^ (f + 1)) : dec (longF f n) = n := by
  induction f generalizing n with
  | zero => simp only [longF, dec]; omega
  | succ f ih =>
    unfold longF
    split
    · simp only [dec]; omega
    · simp only [dec]
      rw [ih (n / 128) (by rw [Nat.pow_succ] at h; exact Nat.div_lt_of_lt_mul (by omega))]
      omega
theorem longF_ne (f n : Nat) : longF f n ≠ [] := by
  cases f <;> unfold longF
  · simp
  · split <;> simp
theorem longF_small (f n : Nat) (h : n < 128 ^ (f + 1)) : ∀ x ∈ longF f n, x < 256 := by
  induction f generalizing n with
  | zero => intro x hx; simp [longF] at hx; omega
  | succ f ih =>
    intro x hx
    unfold longF at hx
    split at hx
    · simp at hx; omega
    · rcases List.mem_cons.1 hx with rfl | hx
      · omega
      · exact ih (n / 128) (by rw [Nat.pow_succ] at h; exact Nat.div_lt_of_lt_mul (by omega)) x hx
/-- canonical: all but the last have the mark, the last has not, and isn't nought unless it stands alone -/
def Canon (pre : List Nat) (c : Nat) : Prop := (∀ x ∈ pre, 128 ≤ x ∧ x < 256) ∧ c < 128 ∧ (c = 0 → pre = [])
theorem longF_canon (f n : Nat) (h : n < 128 ^ (f + 1)) : ∃ pre c, longF f n = pre ++ [c] ∧ Canon pre c ∧ pre.length ≤ f := by
  induction f generalizing n with
  | zero => exact ⟨[], n, by simp [longF], ⟨by simp, by omega, by simp⟩, by simp⟩
  | succ f ih =>
    unfold longF
    split
    · exact ⟨[], n, by simp, ⟨by simp, by omega, by simp⟩, by simp⟩
    · obtain ⟨pre, c, he, ⟨h1, h2, h3⟩, hl⟩ := ih (n / 128) (by rw [Nat.pow_succ] at h; exact Nat.div_lt_of_lt_mul (by omega))
      refine ⟨(n % 128 + 128) :: pre, c, by rw [he]; rfl, ⟨?_, h2, ?_⟩, by simp; omega⟩
      · intro x hx
        rcases List.mem_cons.1 hx with rfl | hx
        · omega
        · exact h1 x hx
      · intro hc
        have := h3 hc
        subst this
        subst hc
        have hd := longF_dec f (n / 128) (by rw [Nat.pow_succ] at h; exact Nat.div_lt_of_lt_mul (by omega))
        rw [he] at hd
        simp [dec] at hd
        omega
theorem dec_append (a b : List Nat) : dec (a ++ b) = dec a + 128 ^ a.length * dec b := by
  induction a with
  | nil => simp [dec]
  | cons x a ih =>
    simp only [List.cons_append, dec, ih, List.length_cons, Nat.pow_succ]
    rw [Nat.mul_add, Nat.add_assoc, ← Nat.mul_assoc, Nat.mul_comm 128 (128 ^ a.length)]
theorem dec_lt (a : List Nat) : dec a < 128 ^ a.length := by
  induction a with
  | nil => simp [dec]
  | cons x a ih => simp only [dec, List.length_cons, Nat.pow_succ]; omega
theorem canon_long (f : Nat) (pre : List Nat) (c : Nat) (h : Canon pre c) (hl : pre.length ≤ f) : longF f (dec (pre ++ [c])) = pre ++ [c] := by
  induction pre generalizing f with
  | nil =>
    have hd : dec ([] ++ [c]) = c := by simp only [List.nil_append, dec]; have := h.2.1; omega
    rw [hd]
    cases f with
    | zero => rfl
    | succ f => unfold longF; rw [if_pos h.2.1]; rfl
  | cons x pre ih =>
    obtain ⟨h1, h2, h3⟩ := h
    have hx := h1 x (by simp)
    have hc : c ≠ 0 := fun e => by have := h3 e; cases this
    have hpos : 0 < dec (pre ++ [c]) := by
      rw [dec_append]
      have : dec [c] = c := by simp only [dec]; omega
      rw [this]
      have : 0 < 128 ^ pre.length := Nat.pow_pos (by omega)
      have : 0 < 128 ^ pre.length * c := Nat.mul_pos this (by omega)
      omega
    cases f with
    | zero => simp at hl
    | succ f =>
      have hi := ih f ⟨fun y hy => h1 y (by simp [hy]), h2, fun e => absurd e hc⟩ (by simp at hl; omega)
      simp only [List.cons_append, dec]
      unfold longF
      rw [if_neg (by omega)]
      have e1 : (x % 128 + 128 * dec (pre ++ [c])) % 128 + 128 = x := by omega
      have e2 : (x % 128 + 128 * dec (pre ++ [c])) / 128 = dec (pre ++ [c]) := by omega
      rw [e1, e2, hi]
theorem canon_unique {f n : Nat} (h : n < 128 ^ (f + 1)) {pre : List Nat} {c : Nat} (he : longF f n = pre ++ [c]) : Canon pre c ∧ dec (pre ++ [c]) = n := by
  obtain ⟨p, d, h1, h2, _⟩ := longF_canon f n h
  rw [h1] at he
  obtain ⟨rfl, h4⟩ := List.append_inj' he rfl
  have : d = c := by simpa using h4
  subst this
  exact ⟨h2, by rw [← h1]; exact longF_dec f n h⟩

def two64 : Nat := 18446744073709551616
theorem two64_lt : two64 < 128 ^ (10 + 1) := by decide
theorem long_fits {n : Nat} (h : n < two64) : n < 128 ^ (10 + 1) := Nat.lt_trans h two64_lt

/-- the program's way -/
def shortF : Nat → Nat → List Nat → Nat × Nat
  | _, _, [] => (0, 0)
  | i, n, c :: l =>
    if two64 ≤ c % 128 * 128 ^ i then (0, 0)
    else if c < 128 then (if c = 0 ∧ 0 < i then (0, 0) else (n + c % 128 * 128 ^ i, i + 1))
    else shortF (i + 1) (n + c % 128 * 128 ^ i) l
def shortL (b : List Nat) : Nat × Nat := shortF 0 0 b
/-- the document's way, over the whole list b -/
def refF (b : List Nat) : Nat → Nat → List Nat → Nat × Nat
  | _, _, [] => (0, 0)
  | i, n, c :: l =>
    if 10 ≤ i then (0, 0)
    else if c < 128 then (if longL ((n + c % 128 * 128 ^ i) % two64) = b.take (i + 1) then ((n + c % 128 * 128 ^ i) % two64, i + 1) else (0, 0))
    else refF b (i + 1) ((n + c % 128 * 128 ^ i) % two64) l

theorem pow_big {i : Nat} (h : 10 ≤ i) : two64 ≤ 128 ^ i := by
  have : 128 ^ 10 ≤ 128 ^ i := Nat.pow_le_pow_right (by omega) h
  have h2 : two64 ≤ 128 ^ 10 := by decide
  omega
theorem shortF_late (i n : Nat) (l : List Nat) (h : 10 ≤ i) : shortF i n l = (0, 0) := by
  induction l generalizing i n with
  | nil => rfl
  | cons c l ih =>
    unfold shortF
    have hp := pow_big h
    split
    · rfl
    · rename_i hlt
      have h0 : c % 128 = 0 := by
        rcases Nat.eq_zero_or_pos (c % 128) with e | e
        · exact e
        · have : 128 ^ i ≤ c % 128 * 128 ^ i := Nat.le_mul_of_pos_left _ e
          omega
      split
      · rw [if_pos ⟨by omega, by omega⟩]
      · exact ih (i + 1) _ (by omega)
theorem step_bound {pre : List Nat} {c : Nat} : dec pre + c % 128 * 128 ^ pre.length = dec (pre ++ [c]) := by
  rw [dec_append]
  simp only [dec, Nat.mul_zero, Nat.add_zero]
  rw [Nat.mul_comm]
theorem pow_le_nine {i : Nat} (h : i < 10) : 128 ^ i * 2 ≤ two64 := by
  have : 128 ^ i ≤ 128 ^ 9 := Nat.pow_le_pow_right (by omega) (by omega)
  have h2 : 128 ^ 9 * 2 ≤ two64 := by decide
  omega
/-- a term that fits: all of it fits -/
theorem sum_fits {pre : List Nat} {c : Nat} (hi : pre.length < 10) (h : c % 128 * 128 ^ pre.length < two64) : dec (pre ++ [c]) < two64 := by
  rw [← step_bound]
  have hd := dec_lt pre
  rcases Nat.lt_or_ge pre.length 9 with h9 | h9
  · have h1 : 128 ^ (pre.length + 1) * 2 ≤ two64 := pow_le_nine (by omega)
    have h2 : c % 128 * 128 ^ pre.length ≤ 127 * 128 ^ pre.length := Nat.mul_le_mul_right _ (by omega)
    rw [Nat.pow_succ] at h1
    omega
  · have h10 : pre.length = 9 := by omega
    rw [h10] at h hd ⊢
    have e1 : (128 : Nat) ^ 9 = 9223372036854775808 := by decide
    rw [e1] at h hd ⊢
    unfold two64 at h ⊢
    omega

theorem short_ref (b pre l : List Nat) (hb : b = pre ++ l) (hp : ∀ x ∈ pre, 128 ≤ x ∧ x < 256) (hi : pre.length ≤ 10) (hfit : dec pre < two64) (hs : ∀ x ∈ l, x < 256) :
    shortF pre.length (dec pre) l = refF b pre.length (dec pre) l := by
  induction l generalizing pre with
  | nil => rfl
  | cons c l ih =>
    rcases Nat.lt_or_ge pre.length 10 with h10 | h10
    · unfold shortF refF
      rw [if_neg (show ¬ 10 ≤ pre.length from by omega)]
      have htk : b.take (pre.length + 1) = pre ++ [c] := by
        rw [hb]
        simp [List.take_append]
        exact List.take_of_length_le (by omega)
      rw [htk, step_bound]
      by_cases hbig : two64 ≤ c % 128 * 128 ^ pre.length
      · rw [if_pos hbig]
        have hV : two64 ≤ dec (pre ++ [c]) := by rw [← step_bound]; exact Nat.le_trans hbig (Nat.le_add_left _ _)
        by_cases hc : c < 128
        · rw [if_pos hc]
          rw [if_neg]
          intro he
          have hm : dec (pre ++ [c]) % two64 < two64 := Nat.mod_lt _ (by decide)
          have := (canon_unique (long_fits hm) he).2
          omega
        · rw [if_neg hc]
          have h9 : pre.length = 9 := by
            rcases Nat.lt_or_ge pre.length 9 with h9 | h9
            · have h1 : 128 ^ (pre.length + 1) * 2 ≤ two64 := pow_le_nine (by omega)
              have h2 : c % 128 * 128 ^ pre.length ≤ 127 * 128 ^ pre.length := Nat.mul_le_mul_right _ (by omega)
              rw [Nat.pow_succ] at h1
              omega
            · omega
          cases l with
          | nil => rfl
          | cons d l => unfold refF; rw [if_pos (by omega)]
      · rw [if_neg hbig]
        have hV := sum_fits h10 (Nat.lt_of_not_le hbig)
        rw [Nat.mod_eq_of_lt hV]
        by_cases hc : c < 128
        · rw [if_pos hc, if_pos hc]
          by_cases h0 : c = 0 ∧ 0 < pre.length
          · rw [if_pos h0, if_neg]
            intro he
            obtain ⟨⟨_, _, h3⟩, _⟩ := canon_unique (long_fits hV) he
            have := h3 h0.1
            subst this
            simp at h0
          · rw [if_neg h0, if_pos]
            exact canon_long 10 pre c ⟨hp, hc, fun e => by
              cases pre with
              | nil => rfl
              | cons x p => exact absurd ⟨e, by simp⟩ h0⟩ (by omega)
        · rw [if_neg hc, if_neg hc]
          have := ih (pre ++ [c]) (by rw [hb]; simp) (by
            intro x hx
            rcases List.mem_append.1 hx with hx | hx
            · exact hp x hx
            · have : x = c := by simpa using hx
              subst this
              exact ⟨by omega, hs x (by simp)⟩) (by simp; omega) hV (fun x hx => hs x (by simp [hx]))
          simpa using this
    · rw [shortF_late _ _ _ h10]
      unfold refF
      rw [if_pos h10]
theorem shortL_ref (b : List Nat) (hs : ∀ x ∈ b, x < 256) : shortL b = refF b 0 0 b := short_ref b [] b rfl (by simp) (by simp) (by decide) hs

/-- what is read is written so -/
theorem short_sound (pre l : List Nat) (hp : ∀ x ∈ pre, 128 ≤ x ∧ x < 256) (hs : ∀ x ∈ l, x < 256) (x k : Nat) (h : shortF pre.length (dec pre) l = (x, k)) (hk : 0 < k) :
    k ≤ 10 ∧ k ≤ (pre ++ l).length ∧ longL x = (pre ++ l).take k ∧ x < two64 := by
  induction l generalizing pre with
  | nil => simp [shortF] at h; omega
  | cons c l ih =>
    rcases Nat.lt_or_ge pre.length 10 with h10 | h10
    · unfold shortF at h
      rw [step_bound] at h
      split at h
      · simp at h; omega
      · rename_i hbig
        have hV := sum_fits h10 (Nat.lt_of_not_le hbig)
        split at h
        · rename_i hc
          split at h
          · simp at h; omega
          · rename_i h0
            simp only [Prod.mk.injEq] at h
            obtain ⟨rfl, rfl⟩ := h
            refine ⟨by omega, by simp, ?_, hV⟩
            have htk : (pre ++ c :: l).take (pre.length + 1) = pre ++ [c] := by
              simp [List.take_append]
              exact List.take_of_length_le (by omega)
            rw [htk]
            exact canon_long 10 pre c ⟨hp, hc, fun e => by
              cases pre with
              | nil => rfl
              | cons x p => exact absurd ⟨e, by simp⟩ h0⟩ (by omega)
        · rename_i hc
          have := ih (pre ++ [c]) (by
            intro y hy
            rcases List.mem_append.1 hy with hy | hy
            · exact hp y hy
            · have : y = c := by simpa using hy
              subst this
              exact ⟨by omega, hs y (by simp)⟩) (fun y hy => hs y (by simp [hy])) (by simpa using h)
          simpa using this
    · rw [shortF_late _ _ _ h10] at h
      simp at h
      omega
/-- what is written is read, whatever stands behind -/
theorem short_back (pre rest more : List Nat) (c : Nat) (h : Canon (pre ++ rest) c) (hl : (pre ++ rest).length ≤ 9) (hfit : dec (pre ++ rest ++ [c]) < two64) :
    shortF pre.length (dec pre) (rest ++ c :: more) = (dec (pre ++ rest ++ [c]), (pre ++ rest).length + 1) := by
  induction rest generalizing pre with
  | nil =>
    simp only [List.append_nil, List.nil_append] at h hl hfit ⊢
    unfold shortF
    rw [step_bound, if_neg (by have h2 := step_bound (pre := pre) (c := c); omega), if_pos h.2.1, if_neg]
    rintro ⟨e, hlt⟩
    have := h.2.2 e
    subst this
    simp at hlt
  | cons d rest ih =>
    have hd := h.1 d (by simp)
    have e1 : pre ++ d :: rest = pre ++ [d] ++ rest := by simp
    simp only [List.cons_append]
    unfold shortF
    have hlow : dec pre + d % 128 * 128 ^ pre.length ≤ dec (pre ++ d :: rest ++ [c]) := by
      rw [step_bound, e1, List.append_assoc, dec_append (pre ++ [d])]
      omega
    rw [if_neg (by omega), if_neg (by omega), step_bound]
    have := ih (pre ++ [d]) (by rw [← e1]; exact h) (by rw [← e1]; exact hl) (by rw [← e1]; exact hfit)
    rw [← e1] at this
    simpa using this
theorem shortL_long (n : Nat) (h : n < two64) (more : List Nat) : shortL (longL n ++ more) = (n, (longL n).length) := by
  obtain ⟨pre, c, he, hc, hl⟩ := longF_canon 10 n (long_fits h)
  have hd := longF_dec 10 n (long_fits h)
  have h9 : pre.length ≤ 9 := by
    rcases Nat.lt_or_ge pre.length 10 with q | q
    · omega
    · exfalso
      rw [he, dec_append] at hd
      have hc0 : c ≠ 0 := fun e => by have := hc.2.2 e; subst this; simp at q
      have h1 : dec [c] = c := by simp only [dec]; have := hc.2.1; omega
      rw [h1] at hd
      have h2 := pow_big q
      have h3 : 128 ^ pre.length ≤ 128 ^ pre.length * c := Nat.le_mul_of_pos_right _ (by omega)
      omega
  have := short_back [] pre more c (by simpa using hc) (by simpa using h9) (by simp only [List.nil_append]; rw [← he, hd]; exact h)
  unfold longL shortL
  rw [he] at hd ⊢
  simp only [List.nil_append] at this
  rw [hd] at this
  simpa [dec] using this
theorem short_marks (i n : Nat) (l : List Nat) (h : ∀ x ∈ l, 128 ≤ x) : shortF i n l = (0, 0) := by
  induction l generalizing i n with
  | nil => rfl
  | cons c l ih =>
    unfold shortF
    have := h c (by simp)
    split
    · rfl
    · rw [if_neg (by omega)]
      exact ih _ _ (fun x hx => h x (by simp [hx]))
theorem shortL_cut (n : Nat) (h : n < two64) : shortL ((longL n).take ((longL n).length - 1)) = (0, 0) := by
  obtain ⟨pre, c, he, hc, _⟩ := longF_canon 10 n (long_fits h)
  unfold longL
  rw [he]
  have : (pre ++ [c]).take ((pre ++ [c]).length - 1) = pre := by simp
  rw [this]
  exact short_marks 0 0 pre fun x hx => (hc.1 x hx).1
end Go.Proofs.Ytkganajbilnanaa.NumMath
namespace Go.Proofs.Ytkganajbilnanaa.NumMath
/-! bytes of a number -/
def putF : Nat → Nat → List Nat
  | 0, _ => []
  | w + 1, n => n % 256 :: putF w (n / 256)
def getL : List Nat → Nat
  | [] => 0
  | b :: l => b + 256 * getL l
theorem putF_length (w n : Nat) : (putF w n).length = w := by
  induction w generalizing n with
  | zero => rfl
  | succ w ih => simp [putF, ih]
theorem putF_small (w n : Nat) : ∀ x ∈ putF w n, x < 256 := by
  induction w generalizing n with
  | zero => intro x hx; cases hx
  | succ w ih =>
    intro x hx
    rcases List.mem_cons.1 hx with rfl | hx
    · exact Nat.mod_lt _ (by omega)
    · exact ih _ x hx
theorem putF_snoc (w n : Nat) : putF (w + 1) n = putF w n ++ [n / 256 ^ w % 256] := by
  induction w generalizing n with
  | zero => simp [putF]
  | succ w ih =>
    have e : n / 256 / 256 ^ w = n / 256 ^ (w + 1) := by rw [Nat.div_div_eq_div_mul, Nat.pow_succ, Nat.mul_comm 256]
    rw [putF, ih (n / 256), e]
    rfl
theorem putF_take (p q n : Nat) (h : p ≤ q) : (putF q n).take p = putF p n := by
  induction p generalizing q n with
  | zero => simp [putF]
  | succ p ih =>
    cases q with
    | zero => omega
    | succ q => simp only [putF, List.take_succ_cons]; rw [ih q (n / 256) (by omega)]
theorem getL_put (w n : Nat) : getL (putF w n) = n % 256 ^ w := by
  induction w generalizing n with
  | zero => simp [putF, getL, Nat.mod_one]
  | succ w ih =>
    simp only [putF, getL, ih]
    rw [Nat.pow_succ, Nat.mul_comm (256 ^ w), Nat.mod_mul]
theorem getL_snoc (l : List Nat) (c : Nat) : getL (l ++ [c]) = getL l + c * 256 ^ l.length := by
  induction l with
  | nil => simp [getL]
  | cons b l ih =>
    simp only [List.cons_append, getL, ih, List.length_cons, Nat.pow_succ]
    rw [Nat.mul_add, Nat.add_assoc, Nat.mul_left_comm, Nat.mul_comm 256 (256 ^ l.length)]
theorem getL_lt (l : List Nat) (h : ∀ x ∈ l, x < 256) : getL l < 256 ^ l.length := by
  induction l with
  | nil => simp [getL]
  | cons b l ih =>
    have h1 := h b (by simp)
    have h2 := ih (fun x hx => h x (by simp [hx]))
    simp only [getL, List.length_cons, Nat.pow_succ]
    omega
theorem pow256 (k : Nat) : 256 ^ k = 2 ^ (8 * k) := by rw [Nat.pow_mul]

/-! signs -/
theorem half_pow (k : Nat) (hk : 1 ≤ k) : ((2 : Int) ^ k + 1) / 2 = 2 ^ (k - 1) := by
  obtain ⟨j, rfl⟩ : ∃ j, k = j + 1 := ⟨k - 1, by omega⟩
  rw [Int.pow_succ, Nat.add_sub_cancel]
  omega
/-- the sign: of k low bits -/
def bm (n : Int) (k : Nat) : Int := if n % 2 ^ k < 2 ^ (k - 1) then n % 2 ^ k else n % 2 ^ k - 2 ^ k
theorem bm_shift (n : Int) (k u : Nat) (hk : 1 ≤ k) : bm (n * 2 ^ u) (k + u) = bm n k * 2 ^ u := by
  have hp : (0 : Int) < 2 ^ u := Int.pow_pos (by omega)
  unfold bm
  rw [Int.pow_add, Int.mul_comm n, Int.mul_comm (2 ^ k), Int.mul_emod_mul_of_pos _ _ hp]
  rw [show k + u - 1 = u + (k - 1) from by omega, Int.pow_add]
  by_cases h : n % 2 ^ k < 2 ^ (k - 1)
  · rw [if_pos h, if_pos (Int.mul_lt_mul_of_pos_left h hp), Int.mul_comm]
  · rw [if_neg h, if_neg (fun h2 => h (Int.lt_of_mul_lt_mul_left h2 (Int.le_of_lt hp))), ← Int.mul_sub, Int.mul_comm]
theorem bm_mod (n : Int) (k j : Nat) (h : k ≤ j) : bm (n % 2 ^ j) k = bm n k := by
  unfold bm
  have : n % 2 ^ j % 2 ^ k = n % 2 ^ k := Int.emod_emod_of_dvd n (by
    obtain ⟨d, rfl⟩ : ∃ d, j = k + d := ⟨j - k, by omega⟩
    rw [Int.pow_add]
    exact Int.dvd_mul_right _ _)
  rw [this]
theorem two_half (k : Nat) (hk : 1 ≤ k) : (2 : Int) ^ k = 2 * 2 ^ (k - 1) := by
  obtain ⟨j, rfl⟩ : ∃ j, k = j + 1 := ⟨k - 1, by omega⟩
  rw [Int.pow_succ, Nat.add_sub_cancel]; omega
theorem bm_bounds (n : Int) (k : Nat) (hk : 1 ≤ k) : -2 ^ (k - 1) ≤ bm n k ∧ bm n k < 2 ^ (k - 1) := by
  have hp : (0 : Int) < 2 ^ k := Int.pow_pos (by omega)
  have h2 := two_half k hk
  have h0 := Int.emod_nonneg n (b := 2 ^ k) (by omega)
  have h1 := Int.emod_lt_of_pos n hp
  unfold bm
  split <;> omega
theorem bm_id (x : Int) (k : Nat) (hk : 1 ≤ k) (h1 : -2 ^ (k - 1) ≤ x) (h2 : x < 2 ^ (k - 1)) : bm x k = x := by
  have hp : (0 : Int) < 2 ^ k := Int.pow_pos (by omega)
  have h3 := two_half k hk
  unfold bm
  by_cases hx : 0 ≤ x
  · rw [Int.emod_eq_of_lt hx (by omega), if_pos h2]
  · have : x % 2 ^ k = x + 2 ^ k := by
      rw [← Int.add_emod_right, Int.emod_eq_of_lt (by omega) (by omega)]
    rw [this, if_neg (by omega)]
    omega
/-- the number that is laid: as an unsigned one and back, in as many bits or more -/
theorem bm_again (n : Int) (k j : Nat) (hk : 1 ≤ k) (hj : k ≤ j) (hj2 : j ≤ 64) : bm (bm n k % 2 ^ 64) j = bm n k := by
  rw [bm_mod _ _ _ hj2]
  have hb := bm_bounds n k hk
  have : (2 : Int) ^ (k - 1) ≤ 2 ^ (j - 1) := by
    obtain ⟨d, hd⟩ : ∃ d, j - 1 = (k - 1) + d := ⟨j - k, by omega⟩
    rw [hd, Int.pow_add]
    have h1 : (0 : Int) < 2 ^ d := Int.pow_pos (by omega)
    have h2 : (0 : Int) < 2 ^ (k - 1) := Int.pow_pos (by omega)
    calc (2 : Int) ^ (k - 1) = 2 ^ (k - 1) * 1 := by omega
      _ ≤ 2 ^ (k - 1) * 2 ^ d := Int.mul_le_mul_of_nonneg_left (by omega) (Int.le_of_lt h2)
  exact bm_id _ _ (by omega) (by omega) (by omega)

/-! powers modulo 2^64 -/
theorem pow_mod_big {n : Nat} (h : 64 ≤ n) : 2 ^ n % 18446744073709551616 = 0 := by
  obtain ⟨d, rfl⟩ : ∃ d, n = 64 + d := ⟨n - 64, by omega⟩
  rw [Nat.pow_add, show (2 : Nat) ^ 64 = 18446744073709551616 from by decide, Nat.mul_mod_right]
theorem pow_mod_small {n : Nat} (h : n < 64) : 2 ^ n % 18446744073709551616 = 2 ^ n := by
  have : 2 ^ n < 2 ^ 64 := Nat.pow_lt_pow_right (by omega) h
  exact Nat.mod_eq_of_lt (by simpa using this)
theorem pow_dbl (k : Nat) : (2 ^ k % 18446744073709551616 + 2 ^ k % 18446744073709551616) % 18446744073709551616 = 2 ^ (k + 1) % 18446744073709551616 := by
  rw [Nat.pow_succ]; omega
theorem shl_min (n k : Nat) : n * 2 ^ min k 64 % 18446744073709551616 = n * (2 ^ k % 18446744073709551616) % 18446744073709551616 := by
  rcases Nat.lt_or_ge k 64 with h | h
  · rw [Nat.min_eq_left (by omega), pow_mod_small h]
  · rw [Nat.min_eq_right h, pow_mod_big h]
    omega
theorem shr_min (n k : Nat) (h : n < 18446744073709551616) : n / 2 ^ min k 64 = n / 2 ^ k := by
  rcases Nat.lt_or_ge k 64 with h1 | h1
  · rw [Nat.min_eq_left (by omega)]
  · rw [Nat.min_eq_right h1, Nat.div_eq_of_lt (by simpa using h)]
    have : 2 ^ 64 ≤ 2 ^ k := Nat.pow_le_pow_right (by omega) h1
    rw [Nat.div_eq_of_lt (by omega)]

/-! turning -/
def rot (n s : Nat) : Nat := n % 2 ^ (64 - s) * 2 ^ s + n / 2 ^ (64 - s)
theorem rot_lt (n s : Nat) (h : n < 18446744073709551616) (hs : s < 64) : rot n s < 18446744073709551616 := by
  have hp : 2 ^ (64 - s) * 2 ^ s = 18446744073709551616 := by rw [← Nat.pow_add, show 64 - s + s = 64 from by omega]
  have h1 : n % 2 ^ (64 - s) < 2 ^ (64 - s) := Nat.mod_lt _ (Nat.two_pow_pos _)
  have h2 : n / 2 ^ (64 - s) < 2 ^ s := Nat.div_lt_of_lt_mul (by omega)
  have h3 : (n % 2 ^ (64 - s) + 1) * 2 ^ s ≤ 2 ^ (64 - s) * 2 ^ s := Nat.mul_le_mul_right _ h1
  unfold rot
  rw [Nat.add_mul] at h3
  omega
theorem rot_back (n s : Nat) (h : n < 18446744073709551616) (hs : s ≤ 64) : rot (rot n s) (64 - s) = n := by
  have hp : 2 ^ s * 2 ^ (64 - s) = 18446744073709551616 := by rw [← Nat.pow_add, show s + (64 - s) = 64 from by omega]
  have h2 : n / 2 ^ (64 - s) < 2 ^ s := Nat.div_lt_of_lt_mul (by rw [Nat.mul_comm]; omega)
  have e : 64 - (64 - s) = s := by omega
  unfold rot
  rw [e]
  have e1 : (n % 2 ^ (64 - s) * 2 ^ s + n / 2 ^ (64 - s)) % 2 ^ s = n / 2 ^ (64 - s) := by
    rw [Nat.mul_add_mod_self_right, Nat.mod_eq_of_lt h2]
  have e2 : (n % 2 ^ (64 - s) * 2 ^ s + n / 2 ^ (64 - s)) / 2 ^ s = n % 2 ^ (64 - s) := by
    rw [Nat.mul_comm, Nat.mul_add_div (Nat.two_pow_pos s), Nat.div_eq_of_lt h2, Nat.add_zero]
  rw [e1, e2, Nat.mul_comm]
  have := Nat.div_add_mod n (2 ^ (64 - s))
  omega
theorem rot_zero (n : Nat) (h : n < 18446744073709551616) : rot n 0 = n := by
  unfold rot
  simp
  omega
theorem rot_back0 (n s : Nat) (h : n < 18446744073709551616) (hs : s < 64) : rot (rot n s) ((64 - s) % 64) = n := by
  rcases Nat.eq_zero_or_pos s with rfl | hp
  · simp [rot_zero n h]
  · rw [Nat.mod_eq_of_lt (by omega)]
    exact rot_back n s h (by omega)
theorem div_pow_bit (n i : Nat) : n % 2 ^ (i + 1) = n % 2 ^ i + 2 ^ i * (n / 2 ^ i % 2) := by rw [Nat.pow_succ, Nat.mod_mul]
/-- a bit more -/
theorem rot_bit (n i s : Nat) (hi : i < 64) (hs : s < 64) : rot (n % 2 ^ (i + 1)) s = rot (n % 2 ^ i) s + n / 2 ^ i % 2 * 2 ^ ((i + s) % 64) := by
  have hx : n % 2 ^ i < 2 ^ i := Nat.mod_lt _ (Nat.two_pow_pos i)
  rw [div_pow_bit]
  rcases Nat.mod_two_eq_zero_or_one (n / 2 ^ i) with hb | hb
  · rw [hb]; simp
  · rw [hb, Nat.mul_one, Nat.one_mul]
    generalize n % 2 ^ i = x at hx
    unfold rot
    rcases Nat.lt_or_ge i (64 - s) with h | h
    · have hlt : x + 2 ^ i < 2 ^ (64 - s) := by
        have : 2 ^ (i + 1) ≤ 2 ^ (64 - s) := Nat.pow_le_pow_right (by omega) (by omega)
        rw [Nat.pow_succ] at this
        omega
      rw [Nat.mod_eq_of_lt hlt, Nat.mod_eq_of_lt (a := x) (by omega), Nat.div_eq_of_lt hlt, Nat.div_eq_of_lt (a := x) (by omega), Nat.mod_eq_of_lt (a := i + s) (by omega), Nat.add_mul, Nat.pow_add]
      omega
    · have hd : 2 ^ i = 2 ^ (64 - s) * 2 ^ (i - (64 - s)) := by rw [← Nat.pow_add]; congr 1; omega
      have e : (i + s) % 64 = i - (64 - s) := by omega
      rw [e, hd, Nat.add_mul_mod_self_left, Nat.add_mul_div_left _ _ (Nat.two_pow_pos _)]
      omega

/-! halving, with a sign -/
theorem half_half (v : Int) (k : Nat) : v / 2 ^ k / 2 = v / 2 ^ (k + 1) := by
  rw [Int.pow_succ, ← Int.ediv_ediv_of_nonneg (Int.le_of_lt (Int.pow_pos (by omega)))]
theorem down_half (v : Int) : -((-(v + 1)) / 2 + 1) = v / 2 := by omega
theorem stays_zero (k : Nat) : (0 : Int) / 2 ^ k = 0 := Int.zero_ediv _
theorem stays_minus (k : Nat) : (-1 : Int) / 2 ^ k = -1 := Int.ediv_eq_neg_one_of_neg_of_le (by omega) (by have : (0 : Int) < 2 ^ k := Int.pow_pos (by omega); omega)
end Go.Proofs.Ytkganajbilnanaa.NumMath


/- The contracts of chapter 1's functions that lay numbers as bytes and read them, on either side. Conditions: numbers fit their kinds; what is handed in reads as bytes. -/
namespace Go.Proofs.Ytkganajbilnanaa
open Go.ChangeShapes Go.WideShapes Go.ChangeAt Go.RowKit
open NumMath
set_option linter.unusedVariables false
set_option maxRecDepth 20000
set_option linter.unusedSimpArgs false

def pwN (n : Nat) : Nat := 2 ^ n % 18446744073709551616
theorem pwN_lt (n : Nat) : pwN n < 18446744073709551616 := Nat.mod_lt _ (by omega)
def putB (n : Nat) (k : Int) : List Nat := if 1 ≤ k ∧ k ≤ 8 then putF k.toNat n else []
theorem putB_small (n : Nat) (k : Int) : Small (putB n k) := by
  unfold putB
  split
  · exact putF_small _ _
  · intro x hx; cases hx
theorem ret_none (T : TypeId) (w : World) : RetBytes T [] w (.returned (.slice none 0 0)) w := ⟨none, 0, rfl, World.ownsRow_nil _ _ _ _, Below.refl _ _, fun x hx => by cases hx⟩

/-- the row behind k rounds of Put -/
def half (k j n : Nat) : List Nat := putF j n ++ List.replicate (k - j) 0
theorem half_zero (k n : Nat) : half k 0 n = List.replicate k 0 := by simp [half, putF]
theorem half_all (k n : Nat) : half k k n = putF k n := by simp [half]
theorem half_length {k j : Nat} (n : Nat) (h : j ≤ k) : (half k j n).length = k := by simp [half, putF_length]; omega
theorem half_next {k j : Nat} (n : Nat) (h : j < k) : (half k j n).set j (n / 256 ^ j % 256) = half k (j + 1) n := by
  unfold half
  rw [putF_snoc, show k - j = (k - (j + 1)) + 1 from by omega, List.replicate_succ, List.set_append_right _ _ (by rw [putF_length]; omega), putF_length, Nat.sub_self]
  simp

theorem put_any (n : Nat) (k : Int) (w : World) (h1 : n < 18446744073709551616) (h2 : -9223372036854775808 ≤ k) (h3 : k ≤ 9223372036854775807) :
    Calls Try.prog 54 #[.int .u64 n, .int .i64 k] w (RetBytes 5 (putB n k) w) := by
  obtain ⟨i0, hi0, hz0, hz1, hz2⟩ := info_parts u8_info
  rcases (show k < 1 ∨ (1 ≤ k ∧ k ≤ 8) ∨ 8 < k from by omega) with hk | hk | hk
  · have e : putB n k = [] := by unfold putB; rw [if_neg (by omega)]
    rw [e]
    clear e
    go_enter Try.func54, Try.ntmps54
    go_wp2
    go_ret
    exact ret_none 5 w
  · obtain ⟨m, rfl⟩ : ∃ m : Nat, k = m := ⟨k.toNat, by omega⟩
    have e : putB n m = putF m n := by unfold putB; rw [if_pos hk]; rfl
    rw [e]
    have hm1 : 1 ≤ m := by omega
    have hm2 : m ≤ 8 := by omega
    clear e hk h2 h3
    go_enter Try.func54, Try.ntmps54
    go_wp2_with (at_make; refine wpList_make_full _ rfl _ _ 26 rfl w.heap.size 5 i0 _ 1 Try.underlying26 hi0 hz0 hz1 .i64 .i64 _ _ m rfl rfl rfl rfl (by rw [hz2]; omega) (by unfold maxLen; omega) (Nat.le_refl _) ?_; intro w1 hown1 hg1)
    have hb1 : Below w.heap.size w w1 := (Below.refl _ _).grown hg1 (Nat.le_refl _) (by simp)
    obtain ⟨g, hgg⟩ : ∃ g, g = w.heap.size := ⟨_, rfl⟩
    have hown2 : w1.ownsRow w.heap.size 5 1 (.slice (some ⟨w.heap.size, 0, none⟩) m m) m ((half m 0 n).map byteV) := by
      have e : (madeCells (Value.int .u8 0).cells (m * 1)).toList = (half m 0 n).map byteV := by
        rw [Nat.mul_one, half_zero, List.map_replicate]
        exact toList_madeCells_one _ m
      rw [← e]
      exact hown1
    clear hown1 hg1 hgg
    go_loopw [17] (fun i wr => ∃ j : Nat, j ≤ m ∧ i = .int .i64 j ∧ wr.ownsRow w.heap.size 5 1 (.slice (some ⟨w.heap.size, 0, none⟩) m m) m ((half m j n).map byteV) ∧ Below w.heap.size w wr) (fun i _ => m - (intOf i).toNat)
    case atStart => exact ⟨0, by omega, rfl, hown2, hb1⟩
    case round =>
      clear hown2 hb1
      obtain ⟨j, hj, rfl, hown, hb⟩ := hrel
      rcases Nat.lt_or_ge j m with hlt | hge
      · have hz := hown.frozenAt j
        obtain ⟨v0, hv0⟩ : ∃ v0, wr.cell? ⟨w.heap.size, j, none⟩ = some v0 := by
          have := hown.cellAt j (by omega)
          rw [List.getElem?_eq_getElem (by rw [List.length_map, half_length n hj]; exact hlt)] at this
          exact ⟨_, this⟩
        have hst := Lib.hid (hown.stored j (byteV (n / 256 ^ j % 256)))
        have hf : (n : Int) / 2 ^ (8 * j) % 256 = ((n / 256 ^ j % 256 : Nat) : Int) := by
          rw [pow256, Int.natCast_emod, Int.natCast_ediv, Int.natCast_pow]; rfl
        have HF := Lib.hid hf
        clear hf
        go_wp2
        go_roundw
        case rel =>
          refine ⟨j + 1, by omega, by go_num, ?_, ?_⟩
          · rw [← half_next n hlt, List.map_set, HF.out]
            exact hst.out.1
          · exact hb.setCell (by exact Nat.le_refl _) _
        case measure => simp [intOf]; omega
      · obtain rfl : j = m := by omega
        rw [half_all] at hown
        go_wp2
        go_ret
        exact ⟨some ⟨w.heap.size, 0, none⟩, j, ret_slice (putF_length j n).symm, by rw [putF_length]; exact hown, hb, putF_small _ _⟩
  · have e : putB n k = [] := by unfold putB; rw [if_neg (by omega)]
    rw [e]
    clear e
    go_enter Try.func54, Try.ntmps54
    go_wp2
    go_ret
    exact ret_none 5 w

theorem one_new (w : World) (x : Nat) : At (w.alloc (.cells #[.int .u8 (x : Int)] 5)) (w.heap.size + 1) (some ⟨w.heap.size, 0, none⟩) [byteV x] := At.new w [byteV x] 5 (0, 0)
theorem get_step (l : List Nat) (k c : Nat) (hs : Small l) (hk : k < l.length) (hk8 : k < 8) (hc : l[k] = c) :
    bits .or .u64 ((getL (l.take k) : Nat) : Int) (IntKind.u64.wrap ((c : Int) * 2 ^ (8 * k))) = ((getL (l.take (k + 1)) : Nat) : Int) := by
  have hlt := getL_lt (l.take k) (fun x hx => hs x (List.mem_of_mem_take hx))
  have hlen : (l.take k).length = k := by simp; omega
  rw [hlen, pow256] at hlt
  have hcs : c < 256 := by rw [← hc]; exact hs _ (List.getElem_mem hk)
  have e1 : (c : Int) * 2 ^ (8 * k) = ((c * 2 ^ (8 * k) : Nat) : Int) := by rw [Int.natCast_mul, Int.natCast_pow]; rfl
  have hp : 256 * 2 ^ (8 * k) ≤ 18446744073709551616 := by
    have : 2 ^ (8 * k + 8) ≤ 2 ^ 64 := Nat.pow_le_pow_right (by omega) (by omega)
    rw [Nat.pow_add] at this
    omega
  have hb : c * 2 ^ (8 * k) < 18446744073709551616 := by
    have : c * 2 ^ (8 * k) ≤ 255 * 2 ^ (8 * k) := Nat.mul_le_mul_right _ (by omega)
    have : 0 < 2 ^ (8 * k) := Nat.two_pow_pos _
    omega
  have e2 : IntKind.u64.wrap ((c * 2 ^ (8 * k) : Nat) : Int) = ((c * 2 ^ (8 * k) : Nat) : Int) := by rw [IntKind.wrap_u64]; omega
  have e3 : getL (l.take (k + 1)) = getL (l.take k) + c * 2 ^ (8 * k) := by
    rw [List.take_succ_eq_append_getElem hk, getL_snoc, hlen, pow256, hc]
  rw [e1, e2, u64_or_nat _ _ (by omega) hb, e3, Nat.or_comm, nat_join (8 * k) _ _ (Nat.mul_mod_left _ _) hlt, Nat.add_comm]
theorem take_min (l : List Nat) : l.take (min l.length 8) = l.take 8 := by
  rcases Nat.le_total l.length 8 with h | h
  · rw [Nat.min_eq_left h, List.take_length, List.take_of_length_le h]
  · rw [Nat.min_eq_right h]
theorem get8_lt (l : List Nat) (k : Nat) (hs : Small l) (hk : k ≤ 8) : getL (l.take k) < 18446744073709551616 := by
  have h := getL_lt (l.take k) (fun x hx => hs x (List.mem_of_mem_take hx))
  have : 256 ^ (l.take k).length ≤ 256 ^ 8 := Nat.pow_le_pow_right (by omega) (by simp; omega)
  omega
theorem get_any (A : Option Addr) (c : Nat) (l : List Nat) (B : Nat) (w : World) (h : Bytes w B A l) (hl : l.length ≤ 100000) (hlc : l.length ≤ c) :
    Calls Try.prog 60 #[.slice A l.length c] w fun e w' => e = .returned (.int .u64 (getL (l.take 8) : Nat)) ∧ w = w' := by
  obtain ⟨q, hmn, hq1, hq2, hq3⟩ : ∃ q : Nat, (if 8 < (l.length : Int) then (8 : Int) else (l.length : Int)) = (q : Int) ∧ q ≤ 8 ∧ q ≤ l.length ∧ q = min l.length 8 := ⟨min l.length 8, by split <;> omega, by omega, by omega, rfl⟩
  have HQ := Lib.hid hq3
  clear hq3
  go_enter Try.func60, Try.ntmps60
  go_wp2
  clear hmn
  go_loop [3, 12] (fun x i => ∃ k v : Nat, k ≤ q ∧ i = .int .i64 k ∧ x = .int .u64 v ∧ v < 18446744073709551616 ∧ Hid (v = getL (l.take k))) (fun _ i => q - (intOf i).toNat)
  case atStart => exact ⟨0, 0, by omega, rfl, rfl, by omega, rfl⟩
  case round =>
    obtain ⟨k, v, hk, rfl, rfl, hv, H⟩ := hrel
    rcases Nat.lt_or_ge k q with hlt | hge
    · obtain ⟨b, o, rfl, hb, hc, hx⟩ := h.at_ (k := k) (by omega)
      have hst := get_step l k l[k] h.2 (by omega) (by omega) rfl
      rw [← H.out] at hst
      obtain ⟨x, hxe⟩ : ∃ x, l[k] = x := ⟨_, rfl⟩
      rw [hxe] at hc hx hst
      obtain ⟨v', hv'⟩ : ∃ v', getL (l.take (k + 1)) = v' := ⟨_, rfl⟩
      have hv2 := get8_lt l (k + 1) h.2 (by omega)
      have HV := Lib.hid hv'
      rw [hv'] at hst hv2
      clear hxe hv'
      go_wp2
      go_round
      case rel => exact ⟨k + 1, v', by omega, by go_num, by go_num, hv2, HV.out.symm⟩
      case measure => simp [intOf]; omega
    · obtain rfl : k = q := by omega
      go_wp2
      go_ret
      exact ⟨ret_nat (by rw [H.out, HQ.out, take_min]), rfl⟩

theorem refget_step (l : List Nat) (k c v p : Nat) (hs : Small l) (hk : k < l.length) (hk8 : k < 8) (hc : l[k] = c) (hv : v = getL (l.take k)) (hp : p = pwN (8 * k)) :
    IntKind.u64.wrap ((v : Int) + IntKind.u64.wrap ((c : Int) * (p : Int))) = ((getL (l.take (k + 1)) : Nat) : Int) := by
  have hlen : (l.take k).length = k := by simp; omega
  have hlt := get8_lt l (k + 1) hs (by omega)
  have e3 : getL (l.take (k + 1)) = v + c * 2 ^ (8 * k) := by
    rw [List.take_succ_eq_append_getElem hk, getL_snoc, hlen, pow256, hc, hv]
  have e4 : p = 2 ^ (8 * k) := by rw [hp]; exact pow_mod_small (by omega)
  rw [e3] at hlt ⊢
  rw [e4, ← Int.natCast_mul, IntKind.wrap_u64, IntKind.wrap_u64]
  omega
end Go.Proofs.Ytkganajbilnanaa


/- A list of bytes that a call gathers by append. Conditions: as stated. -/
namespace Go.Proofs.Ytkganajbilnanaa
open Go.ChangeShapes Go.WideShapes Go.ChangeAt Go.RowKit
open NumMath
set_option linter.unusedVariables false

/-- The slice (A, n, c) is a row of the call's own, in blocks that are new since w0, and holds the bytes l; nothing that was there at w0 has turned. -/
def RB (w0 w : World) (A : Option Addr) (n c : Nat) (l : List Nat) : Prop :=
  w.ownsRow w0.heap.size 5 1 (.slice A n c) n (l.map byteV) ∧ Below w0.heap.size w0 w ∧ Small l ∧ l.length = n
theorem RB.start (w : World) : RB w w none 0 0 [] := ⟨World.ownsRow_nil _ _ _ _, Below.refl _ _, (fun x hx => by cases hx), rfl⟩
theorem RB.keep {w0 w w' : World} {A : Option Addr} {n c : Nat} {l : List Nat} (h : RB w0 w A n c l) (hb : Below w.heap.size w w') : RB w0 w' A n c l :=
  ⟨kept_none (below_none hb) h.1, h.2.1.trans (hb.mono h.2.1.size), h.2.2⟩
theorem RB.alloc {w0 w : World} {A : Option Addr} {n c : Nat} {l : List Nat} (h : RB w0 w A n c l) (o : Obj) : RB w0 (w.alloc o) A n c l := h.keep ((Below.refl _ _).alloc (Nat.le_refl _) o)
theorem RB.cell {w0 w : World} {A : Option Addr} {n c : Nat} {l : List Nat} (h : RB w0 w A n c l) {b : Nat} (hb : b < w0.heap.size) (o : Nat) : w.cell? ⟨b, o, none⟩ = w0.cell? ⟨b, o, none⟩ := h.2.1.cell (p := ⟨b, o, none⟩) hb
theorem RB.bytes {w0 w : World} {A : Option Addr} {n c : Nat} {l : List Nat} (h : RB w0 w A n c l) : Bytes w w.heap.size A l := ⟨At.own h.1, h.2.2.1⟩
theorem RB.ret {w0 w w' : World} {A : Option Addr} {n c : Nat} {l : List Nat} (h : RB w0 w' A n c l) (hb : Below w.heap.size w w0) : RetBytes 5 l w (.returned (.slice A n c)) w' := by
  obtain ⟨h1, h2, h3, rfl⟩ := h
  exact ⟨A, c, rfl, own_base hb.size h1, hb.trans (h2.mono hb.size), h3⟩
/-- a result that is the first of them -/
theorem RB.of_ret {w0 w w' : World} {A : Option Addr} {n c : Nat} {l : List Nat} (hb : Below w0.heap.size w0 w) (ho : w'.ownsRow w.heap.size 5 1 (.slice A n c) n (l.map byteV)) (hb' : Below w.heap.size w w') (hs : Small l) (hn : l.length = n) : RB w0 w' A n c l :=
  ⟨own_base hb.size ho, hb.trans (hb'.mono hb.size), hs, hn⟩

theorem wpList_append_rb {w : World} {ops : Array Oper} {rest : List Oper} {o : Oper} {a : Act} {Q : Exit → Act → World → Prop} (hgd : o.guard = none) (s x : Operand) (t t' : TypeId)
    (ho : o.op = .call { callee := .builtin .append, args := #[s, x], argTypes := #[t, t'] })
    (ht : Try.prog.underlying t = some (.slice 5)) (ht' : Try.prog.underlying t' = some (.slice 5)) {w0 : World} {A : Option Addr} {n c : Nat} {l : List Nat} (h : RB w0 w A n c l) (hs : a.eval s = .slice A n c)
    (B : Nat) (A1 : Option Addr) (m c1 : Nat) (news : List Nat) (hx : a.eval x = .slice A1 m c1) (hb : Bytes w B A1 news) (hm : news.length = m) (hn : n + m ≤ 1000000)
    (k : ∀ A' c' w', RB w0 w' A' (n + m) c' (l ++ news) → wpList Try.prog ops Q rest (a.put o.dst (.slice A' (n + m) c')) w') : wpList Try.prog ops Q (o :: rest) a w := by
  obtain ⟨i0, hi0, hz0, hz1, hz2⟩ := info_parts u8_info
  refine wpList_append_at2 hgd s x t t' ho w0.heap.size 5 i0 _ 1 ht ht' hi0 hz0 hz1 hz2 rfl _ n (l.map byteV) hs h.1 B A1 m c1 (news.map byteV) hx (by rw [List.length_map, hm]) hb.1 (bytes_oneCell _) (by unfold maxLen; omega) (by omega) h.2.1.size ?_
  intro A' c' w' hown hg hat
  refine k A' c' w' ⟨by rw [List.map_append]; exact hown, below_own h.2.1 hg h.1 (Nat.le_refl _) h.2.1.size, small_append h.2.2.1 hb.2, by rw [List.length_append, h.2.2.2, hm]⟩
theorem one_bytes (w : World) {x : Nat} (hx : x < 256) : Bytes (w.alloc (.cells #[.int .u8 (x : Int)] 5)) (w.heap.size + 1) (some ⟨w.heap.size, 0, none⟩) [x] :=
  ⟨one_new w x, fun y hy => by simp at hy; omega⟩
theorem box_start (w : World) (cs : Array Value) (t : TypeId) : Below w.heap.size w (w.alloc (.cells cs t)) ∧ (w.alloc (.cells cs t)).heap.size = w.heap.size + 1 ∧ ∀ o, (w.alloc (.cells cs t)).cell? ⟨w.heap.size, o, none⟩ = cs[o]? := by
  refine ⟨(Below.refl _ _).alloc (Nat.le_refl _) _, by simp, fun o => ?_⟩
  have h0 : (w.alloc (.cells cs t)).heap[w.heap.size]? = some (.cells cs t (0, 0)) := heap_alloc_new w _
  simp only [World.cell?, h0]
  simp
theorem one_rb (w : World) {x : Nat} (hx : x < 256) : RB w (w.alloc (.cells #[.int .u8 (x : Int)] 5)) (some ⟨w.heap.size, 0, none⟩) 1 1 [x] := by
  refine ⟨⟨rfl, .inr ⟨w.heap.size, 1, #[.int .u8 (x : Int)], rfl, Nat.le_refl _, heap_alloc_new w _, Nat.le_refl _, by unfold maxLen; omega, rfl, rfl⟩⟩, (Below.refl _ _).alloc (Nat.le_refl _) _, fun y hy => by simp at hy; omega, rfl⟩
end Go.Proofs.Ytkganajbilnanaa
