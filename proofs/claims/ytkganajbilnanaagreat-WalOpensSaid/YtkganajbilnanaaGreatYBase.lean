/- Words for memory that this seat's contracts use: a slice that reads as a list, from which block on it lies. Conditions: none; no program in sight. -/
import Derived.WalkKit
import Derived.ProofKit
import Derived.OpenShut
import Derived.Below
import Derived.Lib.Hide
import Derived.Laws.OwnMore
import Derived.Deep.Draws
import Derived.WalkSmall
import Derived.Maps.AppendAt
import Derived.Laws.BytesArg
import Derived.Test.YtkganajbilnanaaGreatRows
import Derived.Handy
import Derived.Outline
import Derived.WalkSpells
import Derived.WalkLawsBesides
import Derived.Deep.Slices
import Derived.Deep.Matrix
import Derived.RegionTactic
import Derived.Deep.RegionHeld3
import Derived.Deep.DrawnRows
import Derived.Deep.AppendLies
import Derived.Deep.RegionLaw
import Derived.Deep.QuietTactic
import Derived.BigQuiet
import Derived.Lib.LazyBuf
import Derived.KernelRfl
import Derived.Laws.BitsAllLaws
set_option linter.unusedVariables false
set_option linter.unusedSimpArgs false
namespace Go.Proofs.YtkganajbilnanaaGreat
open Go.RowKit
def At (w : World) (B : Nat) (A : Option Addr) (xs : List Value) : Prop :=
  ∀ j (h : j < xs.length), ∃ b o, A = some ⟨b, o, none⟩ ∧ b < B ∧ w.cell? ⟨b, o + j, none⟩ = some xs[j]
theorem At.nil (w : World) (B : Nat) (A : Option Addr) : At w B A [] := fun _ h => absurd h (by simp)
theorem At.below {w w' : World} {B : Nat} {A : Option Addr} {xs : List Value} (h : At w B A xs) (hb : Below B w w') : At w' B A xs := fun j hj => by
  obtain ⟨b, o, e, hlt, hc⟩ := h j hj
  exact ⟨b, o, e, hlt, (hb.cell (p := ⟨b, o + j, none⟩) hlt).trans hc⟩
theorem At.more {w : World} {B B' : Nat} {A : Option Addr} {xs : List Value} (h : At w B A xs) (hB : B ≤ B') : At w B' A xs := fun j hj => by
  obtain ⟨b, o, e, hlt, hc⟩ := h j hj
  exact ⟨b, o, e, by omega, hc⟩
theorem At.alloc {w : World} {B : Nat} {A : Option Addr} {xs : List Value} (h : At w B A xs) (hB : B ≤ w.heap.size) (o : Obj) : At (w.alloc o) B A xs := h.below ((Below.refl _ _).alloc hB o)
theorem At.drew {w : World} {B : Nat} {A : Option Addr} {xs : List Value} (h : At w B A xs) : At w.drew B A xs := h
theorem At.new (w : World) (l : List Value) (t : TypeId) (f : Nat × Nat) : At (w.alloc (.cells l.toArray t f)) (w.heap.size + 1) (some ⟨w.heap.size, 0, none⟩) l := fun j hj => by
  refine ⟨_, 0, rfl, by omega, ?_⟩
  have h : (w.alloc (.cells l.toArray t f)).heap[w.heap.size]? = some (.cells l.toArray t f) := by
    show (w.heap.push _)[w.heap.size]? = _
    rw [Array.getElem?_push, if_pos rfl]
  simp only [World.cell?, h]
  simp [hj]
theorem At.own {w : World} {base : Nat} {e : TypeId} {A : Option Addr} {n m c : Nat} {xs : List Value} (h : w.ownsRow base e 1 (.slice A n c) m xs) : At w w.heap.size A xs := fun j hj => by
  have hl := h.1
  rcases h.2 with ⟨_, rfl⟩ | ⟨g, cap, cur, hv, hg, hh, hn, hm, hs, hx⟩
  · omega
  · injection hv with h1 h2 h3
    subst h1
    have hlt : g < w.heap.size := by
      rcases Nat.lt_or_ge g w.heap.size with q | q
      · exact q
      · rw [Array.getElem?_eq_none q] at hh; cases hh
    refine ⟨g, 0, rfl, hlt, ?_⟩
    have hc : cur[0 + j]? = some xs[j] := by
      have : (cur.toList.take (m * 1))[j]? = some xs[j] := by rw [hx]; exact List.getElem?_eq_getElem hj
      rw [List.getElem?_take] at this
      split at this
      · simpa using this
      · cases this
    simp only [World.cell?, hh]
    simpa using hc
theorem ret_nat {k : IntKind} {a b : Nat} (h : a = b) : Ending.returned (.int k (a : Int)) = .returned (.int k (b : Int)) := by rw [h]
theorem ret_int {k : IntKind} {a b : Int} (h : a = b) : Ending.returned (.int k a) = .returned (.int k b) := by rw [h]
theorem ret_slice {A : Option Addr} {c a b : Nat} (h : a = b) : Ending.returned (.slice A a c) = .returned (.slice A b c) := by rw [h]
theorem ret_bool {a b : Bool} (h : a = b) : Ending.returned (.bool a) = .returned (.bool b) := by rw [h]
def byteV (x : Nat) : Value := .int .u8 (x : Int)
def Small (l : List Nat) : Prop := ∀ x ∈ l, x < 256
def Bytes (w : World) (B : Nat) (A : Option Addr) (l : List Nat) : Prop := At w B A (l.map byteV) ∧ Small l
theorem Bytes.nil (w : World) (B : Nat) (A : Option Addr) : Bytes w B A [] := ⟨At.nil _ _ _, fun _ h => by cases h⟩
theorem Bytes.below {w w' : World} {B : Nat} {A : Option Addr} {l : List Nat} (h : Bytes w B A l) (hb : Below B w w') : Bytes w' B A l := ⟨h.1.below hb, h.2⟩
theorem Bytes.more {w : World} {B B' : Nat} {A : Option Addr} {l : List Nat} (h : Bytes w B A l) (hB : B ≤ B') : Bytes w B' A l := ⟨h.1.more hB, h.2⟩
theorem Bytes.alloc {w : World} {B : Nat} {A : Option Addr} {l : List Nat} (h : Bytes w B A l) (hB : B ≤ w.heap.size) (o : Obj) : Bytes (w.alloc o) B A l := ⟨h.1.alloc hB o, h.2⟩
theorem Bytes.at_ {w : World} {B : Nat} {A : Option Addr} {l : List Nat} (h : Bytes w B A l) {k : Nat} (hk : k < l.length) :
    ∃ b o, A = some ⟨b, o, none⟩ ∧ b < B ∧ w.cell? ⟨b, o + k, none⟩ = some (.int .u8 (l[k] : Int)) ∧ l[k] < 256 := by
  obtain ⟨b, o, e, hb, hc⟩ := h.1 k (by simpa using hk)
  exact ⟨b, o, e, hb, by simpa [byteV] using hc, h.2 _ (List.getElem_mem hk)⟩
theorem small_append {a b : List Nat} (ha : Small a) (hb : Small b) : Small (a ++ b) := fun x hx => by
  rcases List.mem_append.1 hx with h | h
  · exact ha x h
  · exact hb x h
theorem own_form {w : World} {base : Nat} {e : TypeId} {size : Nat} {v : Value} {n : Nat} {xs : List Value} (h : w.ownsRow base e size v n xs) : ∃ A c, v = .slice A n c ∧ n ≤ c ∧ c ≤ maxLen := by
  rcases h.2 with ⟨rfl, rfl⟩ | ⟨g, cap, cur, rfl, _, _, hn, hm, _⟩
  · exact ⟨none, 0, rfl, Nat.le_refl _, Nat.zero_le _⟩
  · exact ⟨_, cap, rfl, hn, hm⟩
theorem own_pos {w : World} {base : Nat} {e : TypeId} {size : Nat} {A : Option Addr} {n c : Nat} {xs : List Value} (h : w.ownsRow base e size (.slice A n c) n xs) (hn : 0 < n) : ∃ g, A = some ⟨g, 0, none⟩ ∧ base ≤ g ∧ g < w.heap.size := by
  rcases h.2 with ⟨_, h0⟩ | ⟨g, cap, cur, hv, hg, _⟩
  · omega
  · injection hv with hA _ _
    subst hA
    exact ⟨g, rfl, h.lt g rfl⟩
theorem run_append_at {P : Program} (w : World) (base : Nat) (t ty e : TypeId) (i : TypeInfo) (z : Value) (bytes : Nat) (ht : P.underlying t = some (.slice e)) (hi : P.info? e = some i) (hz : i.zero = some z)
    (hsize : i.size = 1) (hby : i.bytes = bytes) (hzs : z.cells.size = 1) (v : Value) (n : Nat) (xs : List Value) (hown : w.ownsRow base e 1 v n xs)
    (B : Nat) (A : Option Addr) (m c : Nat) (news : List Value) (hm : news.length = m) (hr : At w B A news) (h1 : ∀ u ∈ news, u.oneCell' = true)
    (h63 : n + m ≤ maxLen) (hbytes : (n + m) * bytes ≤ 140737488355328) (hbase : base ≤ w.heap.size) :
    ∃ A' c' w', (Builtin.append_ #[t, t] ty #[v, .slice A m c]).run P w = .ok (.slice A' (n + m) c') w' ∧ w'.ownsRow base e 1 (.slice A' (n + m) c') (n + m) (xs ++ news) ∧ w.grownBy w' v.ownBlock ∧
      ((Value.slice A' (n + m) c').ownBlock = v.ownBlock ∨ (Value.slice A' (n + m) c').ownBlock = some w.heap.size) := by
  have key : ∃ v' w', (Builtin.append_ #[t, t] ty #[v, .slice A m c]).run P w = .ok v' w' ∧ w'.ownsRow base e 1 v' (n + m) (xs ++ news) ∧ w.grownBy w' v.ownBlock ∧
      (v'.ownBlock = v.ownBlock ∨ v'.ownBlock = some w.heap.size) := by
    cases A with
    | none =>
      have h0 : news = [] := by
        cases news with
        | nil => rfl
        | cons u us =>
          obtain ⟨b, o, h, _⟩ := hr 0 (by simp)
          cases h
      subst h0
      subst hm
      refine ⟨v, w, ?_, by simpa using hown, World.grownBy.refl w _, .inl rfl⟩
      rcases hown.2 with ⟨rfl, rfl⟩ | ⟨g, cap, cur, rfl, _, _, hnc, _⟩
      · simp [Builtin.append_, run_underlying ht, sizeOf, typeInfo, hi, Builtin.lenOf, Builtin.firstCells]
      · simp [Builtin.append_, run_underlying ht, sizeOf, typeInfo, hi, Builtin.lenOf, Builtin.firstCells, hnc, storeCells]
    | some ad =>
      have hnews : ∀ j u, news[j]? = some u → w.cell? (ad.add j) = some u := fun j u hu => by
        obtain ⟨hj, hju⟩ := List.getElem?_eq_some_iff.1 hu
        obtain ⟨b, o, he, _, hc⟩ := hr j hj
        injection he with he
        subst he
        have : (⟨b, o, none⟩ : Addr).add j = ⟨b, o + j, none⟩ := by
          unfold Addr.add
          split
          · subst_vars; rfl
          · rfl
        rw [this, hc, hju]
      obtain ⟨v', w', hrun, h2, h3, _, h5⟩ := run_append_own_at (P := P) w base t ty e i z 1 bytes ht hi hz hsize hby hzs (by omega) v n xs hown ad m c news (by omega) hnews h1 h63 hbytes hbase
      exact ⟨v', w', hrun, h2, h3, h5⟩
  obtain ⟨v', w', hrun, h2, h3, h5⟩ := key
  obtain ⟨A', c', rfl, _⟩ := own_form h2
  exact ⟨A', c', w', hrun, h2, h3, h5⟩
theorem wpList_append_at {P : Program} {w : World} {ops : Array Oper} {rest : List Oper} {o : Oper} {a : Act} {Q : Exit → Act → World → Prop} (hgd : o.guard = none) (s x : Operand) (t : TypeId)
    (ho : o.op = .call { callee := .builtin .append, args := #[s, x], argTypes := #[t, t] })
    (base : Nat) (e : TypeId) (i : TypeInfo) (z : Value) (bytes : Nat) (ht : P.underlying t = some (.slice e)) (hi : P.info? e = some i) (hz : i.zero = some z)
    (hsize : i.size = 1) (hby : i.bytes = bytes) (hzs : z.cells.size = 1) (v : Value) (n : Nat) (xs : List Value) (hs : a.eval s = v) (hown : w.ownsRow base e 1 v n xs)
    (B : Nat) (A : Option Addr) (m c : Nat) (news : List Value) (hx : a.eval x = .slice A m c) (hm : news.length = m) (hr : At w B A news) (h1 : ∀ u ∈ news, u.oneCell' = true)
    (h63 : n + m ≤ maxLen) (hbytes : (n + m) * bytes ≤ 140737488355328) (hbase : base ≤ w.heap.size)
    (h : ∀ A' c' w', w'.ownsRow base e 1 (.slice A' (n + m) c') (n + m) (xs ++ news) → w.grownBy w' v.ownBlock → ((Value.slice A' (n + m) c').ownBlock = v.ownBlock ∨ (Value.slice A' (n + m) c').ownBlock = some w.heap.size) →
      wpList P ops Q rest (a.put o.dst (.slice A' (n + m) c')) w') : wpList P ops Q (o :: rest) a w := by
  refine wpList_plain hgd fun K hK => ?_
  obtain ⟨A', c', w', hrun, h2, h3, h4⟩ := run_append_at (P := P) w base t o.type e i z bytes ht hi hz hsize hby hzs v n xs hown B A m c news hm hr h1 h63 hbytes hbase
  unfold Oper.wp execOp
  simp only [ho, resolve, invoke, builtin, Sem.run_bind, Sem.run_pure, Result.andThen_ok, List.map_toArray, List.map_cons, List.map_nil, hs, hx, hrun]
  exact hK _ _ (h A' c' w' h2 h3 h4)
theorem bytes_oneCell (l : List Nat) : ∀ u ∈ l.map byteV, u.oneCell' = true := fun u hu => by
  obtain ⟨x, _, rfl⟩ := List.mem_map.1 hu
  rfl
theorem below_own {B base : Nat} {a w w' : World} {e : TypeId} {size : Nat} {v : Value} {n : Nat} {xs : List Value} (h : Below B a w) (hg : w.grownBy w' v.ownBlock) (hown : w.ownsRow base e size v n xs) (hB : B ≤ base) (hb : base ≤ w.heap.size) : Below B a w' :=
  h.grown hg (by omega) (fun k hk => by have := hown.lt k hk; omega)
def strB (l : List Nat) : ByteArray := ⟨(l.map UInt8.ofNat).toArray⟩
theorem run_bytes_str {P : Program} {w : World} {B : Nat} {A : Option Addr} {l : List Nat} (h : Bytes w B A l) (src dst e : TypeId) (hs : P.underlying src = some (.slice e)) (he : P.underlying e = some (.int .u8)) (hd : P.underlying dst = some .string) (cap : Nat) :
    (convert src dst (.slice A l.length cap)).run P w = .ok (.string (strB l)) w := by
  cases l with
  | nil =>
    cases A with
    | none => exact run_convert_bytes_nil w src e hs he 0 cap dst hd
    | some ad =>
      rw [run_convert_bytes_string w src dst e _ _ cap hs he hd]
      exact run_bytesToString w ad 0 cap [] (by simp [loadCells, loadCellsFrom])
  | cons x l =>
    obtain ⟨b, o, rfl, _, _⟩ := h.at_ (k := 0) (by simp)
    have := run_convert_bytes_arg (P := P) w src e hs he b o (x :: l).length cap ((x :: l).map fun n : Nat => (n : Int)) (by simp) (fun i hi => by
      obtain ⟨b', o', e', _, hc, _⟩ := h.at_ hi
      injection e' with e'
      injection e' with e1 e2
      subst e1
      subst e2
      rw [hc, List.getD_eq_getElem?_getD, List.getElem?_map, List.getElem?_eq_getElem hi]
      rfl) dst hd
    rw [this]
    simp only [strOfNums, strB, List.map_map]
    rfl
theorem strB_toList (l : List Nat) : (strB l).toList = l.map UInt8.ofNat := ByteArray.toList_mk _
theorem ofNat_inj {x y : Nat} (hx : x < 256) (hy : y < 256) (h : UInt8.ofNat x = UInt8.ofNat y) : x = y := by
  have := congrArg UInt8.toNat h
  simp only [UInt8.toNat_ofNat'] at this
  omega
theorem map_ofNat_inj : ∀ {l m : List Nat}, Small l → Small m → l.map UInt8.ofNat = m.map UInt8.ofNat → l = m
  | [], [], _, _, _ => rfl
  | [], _ :: _, _, _, h => by cases h
  | _ :: _, [], _, _, h => by cases h
  | x :: l, y :: m, hl, hm, h => by
    simp only [List.map_cons, List.cons.injEq] at h
    rw [ofNat_inj (hl x (by simp)) (hm y (by simp)) h.1, map_ofNat_inj (fun z hz => hl z (by simp [hz])) (fun z hz => hm z (by simp [hz])) h.2]
theorem strB_beq {l m : List Nat} (hl : Small l) (hm : Small m) : ((strB l).toList == (strB m).toList) = decide (l = m) := by
  rw [strB_toList, strB_toList, Bool.eq_iff_iff, beq_iff_eq, decide_eq_true_iff]
  exact ⟨map_ofNat_inj hl hm, fun h => by rw [h]⟩
theorem At.take {w : World} {B : Nat} {A : Option Addr} {xs : List Value} (h : At w B A xs) (n : Nat) : At w B A (xs.take n) := fun j hj => by
  obtain ⟨b, o, e, hb, hc⟩ := h j (by rw [List.length_take] at hj; omega)
  exact ⟨b, o, e, hb, by rw [hc, List.getElem_take]⟩
theorem Bytes.take {w : World} {B : Nat} {A : Option Addr} {l : List Nat} (h : Bytes w B A l) (n : Nat) : Bytes w B A (l.take n) := ⟨by rw [List.map_take]; exact h.1.take n, fun x hx => h.2 x (List.mem_of_mem_take hx)⟩
def shift (A : Option Addr) (k : Nat) : Option Addr := A.map fun a => ⟨a.block, a.off + k, none⟩
theorem At.drop {w : World} {B : Nat} {A : Option Addr} {xs : List Value} (h : At w B A xs) (k : Nat) : At w B (shift A k) (xs.drop k) := fun j hj => by
  rw [List.length_drop] at hj
  obtain ⟨b, o, e, hb, hc⟩ := h (k + j) (by omega)
  exact ⟨b, o + k, by rw [e]; rfl, hb, by rw [Nat.add_assoc, hc, List.getElem_drop]⟩
theorem Bytes.drop {w : World} {B : Nat} {A : Option Addr} {l : List Nat} (h : Bytes w B A l) (k : Nat) : Bytes w B (shift A k) (l.drop k) := ⟨by rw [List.map_drop]; exact h.1.drop k, fun x hx => h.2 x (List.mem_of_mem_drop hx)⟩
def Drew (w w' : World) : Prop := ∃ m, w' = w.drewN m
theorem Drew.refl (w : World) : Drew w w := ⟨0, rfl⟩
theorem Drew.more {w w' : World} (h : Drew w w') (n : Nat) : Drew w (w'.drewN n) := by
  obtain ⟨m, rfl⟩ := h
  exact ⟨m + n, World.drewN_drewN _ _ _⟩
theorem Drew.trans {a b c : World} (h : Drew a b) (k : Drew b c) : Drew a c := by
  obtain ⟨n, rfl⟩ := k
  exact h.more n
theorem Drew.below {w w' : World} (h : Drew w w') (B : Nat) : Below B w w' := by
  obtain ⟨m, rfl⟩ := h
  exact below_drewN (Below.refl _ _) m
theorem Drew.own {w w' : World} (h : Drew w w') {base : Nat} {e : TypeId} {size : Nat} {v : Value} {n : Nat} {xs : List Value} (ho : w.ownsRow base e size v n xs) : w'.ownsRow base e size v n xs := by
  obtain ⟨m, rfl⟩ := h
  exact ho
def RetBytes (T : TypeId) (l : List Nat) (w : World) (e : Ending) (w' : World) : Prop :=
  ∃ A c, e = .returned (.slice A l.length c) ∧ w'.ownsRow w.heap.size T 1 (.slice A l.length c) l.length (l.map byteV) ∧ Below w.heap.size w w' ∧ Small l
theorem RetBytes.is {T : TypeId} {l : List Nat} {w : World} {e : Ending} {w' : World} (h : RetBytes T l w e w') :
    ∃ A c, e = .returned (.slice A l.length c) ∧ w'.ownsRow w.heap.size T 1 (.slice A l.length c) l.length (l.map byteV) ∧ Below w.heap.size w w' ∧ Bytes w' w'.heap.size A l := by
  obtain ⟨A, c, h1, h2, h3, h4⟩ := h
  exact ⟨A, c, h1, h2, h3, At.own h2, h4⟩
theorem own_bytes {T : TypeId} {base n : Nat} {w : World} {A : Option Addr} {c : Nat} {l : List Nat} (h : w.ownsRow base T 1 (.slice A n c) n (l.map byteV)) (hs : Small l) : Bytes w w.heap.size A l := ⟨At.own h, hs⟩
def IsRow (k : IntKind) (w : World) (a : Option Addr) (len cap : Nat) (zs : List Int) : Prop :=
  (a = none ∧ len = 0 ∧ cap = 0 ∧ zs = []) ∨
  ∃ x, a = some x ∧ len ≤ cap ∧ cap ≤ maxLen ∧ zs.length = cap ∧ (∀ i, i < zs.length → w.cell? (x.add i) = some (.int k (zs.getD i 0))) ∧ ∀ n ∈ zs, (Lit.int k n).wf = true
theorem wf_u8 {n : Int} (h : (Lit.int .u8 n).wf = true) : 0 ≤ n ∧ n < 256 := by
  have := bounds_u8 h
  omega
theorem IsRow.bytes {w : World} {a : Option Addr} {len cap : Nat} {zs : List Int} (h : IsRow .u8 w a len cap zs) : len ≤ cap ∧ ∃ l : List Nat, l.length = len ∧ Bytes w w.heap.size a l := by
  rcases h with ⟨rfl, rfl, rfl, rfl⟩ | ⟨x, rfl, hl, hm, hz, hc, hw⟩
  · exact ⟨Nat.le_refl _, [], rfl, Bytes.nil _ _ _⟩
  · refine ⟨hl, (zs.take len).map Int.toNat, by simp; omega, ?_, ?_⟩
    · intro j hj
      have hj' : j < len := by simp at hj; omega
      have h0 := hc j (by omega)
      have h00 := hc 0 (by omega)
      have hsp := World.cell?_spot h00
      obtain ⟨b, o, sp⟩ := x
      have hsp' : sp = none := by simpa [Addr.add] using hsp
      subst hsp'
      have hlt : b < w.heap.size := by
        rcases Nat.lt_or_ge b w.heap.size with q | q
        · exact q
        · simp only [World.cell?, Addr.add, if_pos] at h00
          rw [Array.getElem?_eq_none q] at h00
          cases h00
      refine ⟨b, o, rfl, hlt, ?_⟩
      have he : (⟨b, o, none⟩ : Addr).add j = ⟨b, o + j, none⟩ := by
        unfold Addr.add
        split
        · subst_vars; rfl
        · rfl
      rw [he] at h0
      rw [h0]
      have hb := wf_u8 (hw (zs.getD j 0) (by
        rw [List.getD_eq_getElem?_getD, List.getElem?_eq_getElem (by omega : j < zs.length)]
        exact List.getElem_mem _))
      simp only [List.getElem_map, byteV, List.getElem_take]
      rw [List.getD_eq_getElem?_getD, List.getElem?_eq_getElem (by omega : j < zs.length)] at hb ⊢
      simp only [Option.getD_some] at hb ⊢
      congr 2
      omega
    · intro x hx
      obtain ⟨y, hy, rfl⟩ := List.mem_map.1 hx
      have := wf_u8 (hw y (List.mem_of_mem_take hy))
      omega
end Go.Proofs.YtkganajbilnanaaGreat
namespace Go.Proofs.YtkganajbilnanaaGreat
open Go.ChangeShapes Go.WideShapes Go.ChangeAt Go.RowKit
theorem u8_info : (Tryz.prog.info? 5).map (fun i => (i.zero, i.size, i.bytes)) = some (some (.int .u8 0), 1, 1) := by kernel_rfl
theorem nat_u64 {a : Int} (h : (Lit.int .u64 a).wf = true) : ∃ n : Nat, a = n ∧ n < 18446744073709551616 := by
  have := bounds_u64 h
  exact ⟨a.toNat, by omega, by omega⟩
theorem beq_nat (a b : Nat) : ((a : Int) == (b : Int)) = (a == b) := by
  rw [Bool.eq_iff_iff, beq_iff_eq, beq_iff_eq]; omega
theorem same_any (A A' : Option Addr) (c c' : Nat) (l m : List Nat) (B : Nat) (w : World) (hl : Bytes w B A l) (hm : Bytes w B A' m) :
    Calls Tryz.prog 92 #[.slice A l.length c, .slice A' m.length c'] w fun e w' => e = .returned (.bool (decide (l = m))) ∧ w = w' := by
  have h1 := run_bytes_str (P := Tryz.prog) hl 45 9 5 Tryz.underlying45 Tryz.underlying5 Tryz.underlying9 c
  have h2 := run_bytes_str (P := Tryz.prog) hm 45 9 5 Tryz.underlying45 Tryz.underlying5 Tryz.underlying9 c'
  have h3 := strB_beq hl.2 hm.2
  go_enter Tryz.func92, Tryz.ntmps92
  go_wp2
  go_ret
  exact ⟨rfl, rfl⟩
end Go.Proofs.YtkganajbilnanaaGreat
namespace Go.Proofs.YtkganajbilnanaaGreat
open Go.RowKit
structure Only (S : Nat → Prop) (w w' : World) : Prop where
  os : w'.os = w.os
  tape : w'.tape = w.tape
  output : w'.output = w.output
  size : w.heap.size ≤ w'.heap.size
  block : ∀ b, b < w.heap.size → ¬ S b → w'.heap[b]? = w.heap[b]?
section
variable {S S' : Nat → Prop} {w w' w1 w2 : World}
theorem Only.refl (S : Nat → Prop) (w : World) : Only S w w := ⟨rfl, rfl, rfl, Nat.le_refl _, fun _ _ _ => rfl⟩
theorem Only.trans (h : Only S w w1) (k : Only S' w1 w2) (hs : ∀ b, S' b → S b ∨ w.heap.size ≤ b) : Only S w w2 :=
  ⟨k.os.trans h.os, k.tape.trans h.tape, k.output.trans h.output, Nat.le_trans h.size k.size, fun b hb hn =>
    (k.block b (Nat.lt_of_lt_of_le hb h.size) (fun q => (hs b q).elim hn (fun q' => by omega))).trans (h.block b hb hn)⟩
theorem Only.mono (h : Only S w w') (hs : ∀ b, S b → S' b ∨ w.heap.size ≤ b) : Only S' w w' :=
  ⟨h.os, h.tape, h.output, h.size, fun b hb hn => h.block b hb (fun q => (hs b q).elim hn (fun q' => by omega))⟩
theorem Only.of_below (h : Below w.heap.size w w') (S : Nat → Prop) : Only S w w' := ⟨h.os, h.tape, h.output, h.size, fun b hb _ => h.block b hb⟩
theorem Only.of_grown {row : Option Nat} (h : w.grownBy w' row) (hs : ∀ k, row = some k → S k ∨ w.heap.size ≤ k) : Only S w w' :=
  ⟨h.os, h.tape, h.output, h.size, fun b hb hn => h.block b hb (fun e => (hs b e.symm).elim hn (fun q' => by omega))⟩
theorem Only.grown (h : Only S w w') {row : Option Nat} (hs : ∀ k, S k → some k = row) : w.grownBy w' row :=
  ⟨h.os, h.tape, h.output, h.size, fun b hb hn => h.block b hb (fun q => hn (hs b q))⟩
theorem Only.below (h : Only S w w') {B : Nat} (hB : B ≤ w.heap.size) (hs : ∀ b, S b → B ≤ b) : Below B w w' :=
  ⟨h.os, h.tape, h.output, h.size, fun b hb => h.block b (by omega) (fun q => by have := hs b q; omega)⟩
theorem Only.alloc (h : Only S w w') (o : Obj) : Only S w (w'.alloc o) :=
  h.trans (Only.of_below ((Below.refl _ _).alloc (Nat.le_refl _) o) S) fun b q => .inl q
theorem Only.setCell (h : Only S w w') {p : Addr} (hp : S p.block ∨ w.heap.size ≤ p.block) (u : Value) : Only S w (w'.setCell p u) :=
  ⟨h.os, h.tape, h.output, by simpa [World.setCell] using h.size, fun b hb hn => (Below.heap_setCell w' p u b (by
    rintro rfl
    rcases hp with q | q
    · exact hn q
    · omega)).trans (h.block b hb hn)⟩
theorem Only.cell (h : Only S w w') {p : Addr} (hp : p.block < w.heap.size) (hs : ¬ S p.block) : w'.cell? p = w.cell? p := World.cell?_of_block (h.block p.block hp hs)
theorem Only.own (h : Only S w w') {base : Nat} {e : TypeId} {size : Nat} {v : Value} {n : Nat} {xs : List Value} (ho : w.ownsRow base e size v n xs) (hs : ∀ k, v.ownBlock = some k → ¬ S k) : w'.ownsRow base e size v n xs := by
  refine ⟨ho.1, ?_⟩
  rcases ho.2 with q | ⟨g, cap, cur, rfl, hb, hgg, rest⟩
  · exact .inl q
  · exact .inr ⟨g, cap, cur, rfl, hb, (h.block g (ho.lt g rfl).2 (hs g rfl)).trans hgg, rest⟩
end
def AtIn (w : World) (S : Nat → Prop) (A : Option Addr) (xs : List Value) : Prop :=
  ∀ j (h : j < xs.length), ∃ b o, A = some ⟨b, o, none⟩ ∧ S b ∧ b < w.heap.size ∧ w.cell? ⟨b, o + j, none⟩ = some xs[j]
theorem AtIn.at_ {w : World} {S : Nat → Prop} {A : Option Addr} {xs : List Value} (h : AtIn w S A xs) : At w w.heap.size A xs := fun j hj => by
  obtain ⟨b, o, e, _, hb, hc⟩ := h j hj
  exact ⟨b, o, e, hb, hc⟩
def Stays (S : Nat → Prop) (w w' : World) : Prop := w.heap.size ≤ w'.heap.size ∧ ∀ b, S b → b < w.heap.size → w'.heap[b]? = w.heap[b]?
theorem AtIn.stays {w w' : World} {S : Nat → Prop} {A : Option Addr} {xs : List Value} (h : AtIn w S A xs) (hs : Stays S w w') : AtIn w' S A xs := fun j hj => by
  obtain ⟨b, o, e, h1, h2, hc⟩ := h j hj
  exact ⟨b, o, e, h1, Nat.lt_of_lt_of_le h2 hs.1, (World.cell?_of_block (a := ⟨b, o + j, none⟩) (hs.2 b h1 h2)).trans hc⟩
theorem AtIn.mono {w : World} {S S' : Nat → Prop} {A : Option Addr} {xs : List Value} (h : AtIn w S A xs) (hs : ∀ b, S b → S' b) : AtIn w S' A xs := fun j hj => by
  obtain ⟨b, o, e, h1, h2, hc⟩ := h j hj
  exact ⟨b, o, e, hs b h1, h2, hc⟩
theorem Only.stays {S T : Nat → Prop} {w w' : World} (h : Only S w w') (hd : ∀ b, T b → ¬ S b) : Stays T w w' := ⟨h.size, fun b hb hl => h.block b hl (hd b hb)⟩
def BytesIn (w : World) (S : Nat → Prop) (A : Option Addr) (l : List Nat) : Prop := AtIn w S A (l.map byteV) ∧ Small l
theorem BytesIn.bytes {w : World} {S : Nat → Prop} {A : Option Addr} {l : List Nat} (h : BytesIn w S A l) : Bytes w w.heap.size A l := ⟨h.1.at_, h.2⟩
theorem BytesIn.stays {w w' : World} {S : Nat → Prop} {A : Option Addr} {l : List Nat} (h : BytesIn w S A l) (hs : Stays S w w') : BytesIn w' S A l := ⟨h.1.stays hs, h.2⟩
theorem BytesIn.mono {w : World} {S S' : Nat → Prop} {A : Option Addr} {l : List Nat} (h : BytesIn w S A l) (hs : ∀ b, S b → S' b) : BytesIn w S' A l := ⟨h.1.mono hs, h.2⟩
theorem BytesIn.nil (w : World) (S : Nat → Prop) (A : Option Addr) : BytesIn w S A [] := ⟨fun j hj => absurd hj (by simp), fun x hx => by cases hx⟩
theorem AtIn.own {w : World} {base : Nat} {e : TypeId} {A : Option Addr} {n m c : Nat} {xs : List Value} (h : w.ownsRow base e 1 (.slice A n c) m xs) : AtIn w (fun b => some b = (Value.slice A n c).ownBlock) A xs := fun j hj => by
  obtain ⟨b, o, e', hb, hc⟩ := At.own h j hj
  have hl := h.1
  obtain ⟨g, hA, hg, hg'⟩ : ∃ g, A = some ⟨g, 0, none⟩ ∧ base ≤ g ∧ g < w.heap.size := by
    rcases h.2 with ⟨_, rfl⟩ | ⟨g, cap, cur, hv, hg, _⟩
    · omega
    · injection hv with hA _ _
      subst hA
      exact ⟨g, rfl, h.lt g rfl⟩
  subst hA
  injection e' with e'
  injection e' with e1 e2
  subst e1
  subst e2
  exact ⟨g, 0, rfl, by simp [Value.ownBlock], hb, hc⟩
def Blk (w : World) (g : Nat) (t : TypeId) (cs : Array Value) : Prop := w.heap[g]? = some (.cells cs t (0, 0))
section
variable {w w' : World} {g : Nat} {t : TypeId} {cs : Array Value}
theorem Blk.lt (h : Blk w g t cs) : g < w.heap.size := by
  rcases Nat.lt_or_ge g w.heap.size with hlt | hge
  · exact hlt
  · unfold Blk at h; rw [Array.getElem?_eq_none hge] at h; cases h
theorem Blk.cell (h : Blk w g t cs) : ∀ i, w.cell? ⟨g, i, none⟩ = cs[i]? := fun i => by
  unfold Blk at h
  simp only [World.cell?, h]
  simp
theorem Blk.frozen (h : Blk w g t cs) : ∀ i, w.frozen? ⟨g, i, none⟩ = false := fun i => by
  unfold Blk at h
  simp [World.frozen?, h]
theorem Blk.new (w : World) (t : TypeId) (cs : Array Value) : Blk (w.alloc (.cells cs t)) w.heap.size t cs := heap_alloc_new w _
theorem Blk.drew (h : Blk w g t cs) : Blk w.drew g t cs := h
theorem Blk.drewN (h : Blk w g t cs) (n : Nat) : Blk (w.drewN n) g t cs := h
theorem Blk.alloc (h : Blk w g t cs) (o : Obj) : Blk (w.alloc o) g t cs := (Below.heap_alloc w o g h.lt).trans h
theorem Blk.set_ (h : Blk w g t cs) (i : Nat) (u : Value) : Blk (w.setCell ⟨g, i, none⟩ u) g t (cs.setIfInBounds i u) := by
  unfold Blk at h ⊢
  simp [World.setCell, Array.getElem?_modify, h]
theorem Blk.far (h : Blk w g t cs) {p : Addr} (hp : g ≠ p.block) (u : Value) : Blk (w.setCell p u) g t cs := (Below.heap_setCell w p u g hp).trans h
theorem Blk.below {B : Nat} (h : Blk w g t cs) (hb : Below B w w') (hg : g < B) : Blk w' g t cs := (hb.block g hg).trans h
theorem Blk.grown {row : Option Nat} (h : Blk w g t cs) (hb : w.grownBy w' row) (hg : some g ≠ row) : Blk w' g t cs := (hb.block g h.lt hg).trans h
theorem Blk.only {S : Nat → Prop} (h : Blk w g t cs) (hb : Only S w w') (hg : ¬ S g) : Blk w' g t cs := (hb.block g h.lt hg).trans h
theorem Blk.ne_ {g' : Nat} {t' : TypeId} {cs' : Array Value} (h : Blk w g t cs) (h' : Blk w g' t' cs') (hne : t ≠ t') : g ≠ g' := by
  rintro rfl
  unfold Blk at h h'
  rw [h] at h'
  injection h' with h'
  injection h' with _ ht
  exact hne ht
end
theorem below_drew0 (w : World) : Below w.heap.size w w.drew := (Below.refl _ _).drew
def RowIs (w : World) (base : Nat) (v : Value) (l : List Nat) : Prop := (∃ A c, v = .slice A l.length c) ∧ w.ownsRow base 5 1 v l.length (l.map byteV) ∧ Small l
def Rows (w : World) (base : Nat) (L : List Value) (ls : List (List Nat)) : Prop := L.length = ls.length ∧ ∀ (j : Nat) (v : Value) (l : List Nat), L[j]? = some v → ls[j]? = some l → RowIs w base v l
theorem Rows.nil (w : World) (base : Nat) : Rows w base [] [] := ⟨rfl, fun j v l h => by simp at h⟩
theorem Rows.imp {w w' : World} {base : Nat} {L : List Value} {ls : List (List Nat)} (h : Rows w base L ls) (f : ∀ (v : Value) (l : List Nat), w.ownsRow base 5 1 v l.length (l.map byteV) → w'.ownsRow base 5 1 v l.length (l.map byteV)) : Rows w' base L ls :=
  ⟨h.1, fun j v l hv hl => by
    obtain ⟨h1, h2, h3⟩ := h.2 j v l hv hl
    exact ⟨h1, f v l h2, h3⟩⟩
theorem Rows.snoc {w : World} {base : Nat} {L : List Value} {ls : List (List Nat)} (h : Rows w base L ls) {v : Value} {l : List Nat} (hv : RowIs w base v l) : Rows w base (L ++ [v]) (ls ++ [l]) :=
  ⟨by simp [h.1], fun j u m hu hm => by
    rcases Nat.lt_trichotomy j L.length with q | q | q
    · rw [List.getElem?_append_left q] at hu
      rw [List.getElem?_append_left (by rw [← h.1]; exact q)] at hm
      exact h.2 j u m hu hm
    · subst q
      rw [List.getElem?_append_right (Nat.le_refl _)] at hu
      rw [List.getElem?_append_right (by rw [h.1]; exact Nat.le_refl _), h.1] at hm
      simp at hu hm
      subst hu
      subst hm
      exact hv
    · rw [List.getElem?_eq_none (by simp; omega)] at hu
      cases hu⟩
theorem own_apart {w : World} {b b' : Nat} {e e' : TypeId} (hne : e ≠ e') {s s' : Nat} {v v' : Value} {n n' : Nat} {xs xs' : List Value} (h : w.ownsRow b e s v n xs) (h' : w.ownsRow b' e' s' v' n' xs') : v.ownBlock = none ∨ v.ownBlock ≠ v'.ownBlock := by
  rcases h.2 with ⟨rfl, _⟩ | ⟨g, cap, cur, rfl, _, hgb, _⟩
  · exact .inl rfl
  · right
    rcases h'.2 with ⟨rfl, _⟩ | ⟨g', cap', cur', rfl, _, hgb', _⟩
    · simp [Value.ownBlock]
    · intro e
      obtain rfl : g = g' := by simpa [Value.ownBlock] using e
      rw [hgb] at hgb'
      simp at hgb'
      exact hne hgb'.2
theorem own_block {w : World} {b : Nat} {e e' : TypeId} (hne : e ≠ e') {s : Nat} {v : Value} {n : Nat} {xs : List Value} (h : w.ownsRow b e s v n xs) {B : Nat} {cs : Array Value} {f : Nat × Nat} (hB : w.heap[B]? = some (.cells cs e' f)) : v.ownBlock = none ∨ v.ownBlock ≠ some B := by
  rcases h.2 with ⟨rfl, _⟩ | ⟨g, cap, cur, rfl, _, hgb, _⟩
  · exact .inl rfl
  · right
    intro e
    obtain rfl : g = B := by simpa [Value.ownBlock] using e
    rw [hgb] at hB
    simp at hB
    exact hne hB.2.1
theorem below_none {w w' : World} (h : Below w.heap.size w w') : w.grownBy w' none := ⟨h.os, h.tape, h.output, h.size, fun i hi _ => h.block i hi⟩
theorem kept_none {w w' : World} (h : w.grownBy w' none) {base : Nat} {e : TypeId} {s : Nat} {v : Value} {n : Nat} {xs : List Value} (ho : w.ownsRow base e s v n xs) : w'.ownsRow base e s v n xs := ho.kept h (by cases h : v.ownBlock <;> simp)
theorem Rows.imp' {w w' : World} {base base' : Nat} {L : List Value} {ls : List (List Nat)} (h : Rows w base L ls) (f : ∀ (v : Value) (l : List Nat), w.ownsRow base 5 1 v l.length (l.map byteV) → w'.ownsRow base' 5 1 v l.length (l.map byteV)) : Rows w' base' L ls :=
  ⟨h.1, fun j v l hv hl => by
    obtain ⟨h1, h2, h3⟩ := h.2 j v l hv hl
    exact ⟨h1, f v l h2, h3⟩⟩
theorem Rows.grown {w w' : World} {base : Nat} {L : List Value} {ls : List (List Nat)} (h : Rows w base L ls) (hg : w.grownBy w' Option.none) : Rows w' base L ls :=
  h.imp fun v l ho => ho.kept hg (by cases h : v.ownBlock <;> simp)
theorem own_base {w : World} {b b' : Nat} {e : TypeId} {s : Nat} {v : Value} {n : Nat} {xs : List Value} (hb : b' ≤ b) (h : w.ownsRow b e s v n xs) : w.ownsRow b' e s v n xs := by
  refine ⟨h.1, ?_⟩
  rcases h.2 with h' | ⟨g, cap, cur, h1, h2, h3⟩
  · exact .inl h'
  · exact .inr ⟨g, cap, cur, h1, by omega, h3⟩
def Reads (w : World) (B : Nat) (L : List Value) (ls : List (List Nat)) : Prop := L.length = ls.length ∧ ∀ (j : Nat) (l : List Nat), ls[j]? = some l → ∃ A c, L[j]? = some (.slice A l.length c) ∧ l.length ≤ c ∧ Bytes w B A l
theorem Reads.below {w w' : World} {B : Nat} {L : List Value} {ls : List (List Nat)} (h : Reads w B L ls) (hb : Below B w w') : Reads w' B L ls := ⟨h.1, fun j l hl => by
  obtain ⟨A, c, h1, h2, h3⟩ := h.2 j l hl
  exact ⟨A, c, h1, h2, h3.below hb⟩⟩
theorem Rows.reads {w : World} {base : Nat} {L : List Value} {ls : List (List Nat)} (h : Rows w base L ls) : Reads w w.heap.size L ls := ⟨h.1, fun j l hl => by
  have hj : j < L.length := by
    rw [h.1]
    exact (List.getElem?_eq_some_iff.1 hl).1
  obtain ⟨⟨A, c, e⟩, h2, h3⟩ := h.2 j _ l (List.getElem?_eq_getElem hj) hl
  rw [e] at h2
  obtain ⟨A', c', e', hc, _⟩ := own_form h2
  injection e' with e1 e2 e3
  exact ⟨A, c, by rw [List.getElem?_eq_getElem hj, e], by omega, own_bytes h2 h3⟩⟩
theorem Reads.more {w : World} {B B' : Nat} {L : List Value} {ls : List (List Nat)} (h : Reads w B L ls) (hB : B ≤ B') : Reads w B' L ls := ⟨h.1, fun j l hl => by
  obtain ⟨A, c, h1, h2, h3⟩ := h.2 j l hl
  exact ⟨A, c, h1, h2, h3.more hB⟩⟩
theorem own_cap {w : World} {base : Nat} {e : TypeId} {size : Nat} {A : Option Addr} {n c : Nat} {xs : List Value} (h : w.ownsRow base e size (.slice A n c) n xs) : n ≤ c := by
  obtain ⟨A', c', e', hc, _⟩ := own_form h
  injection e' with _ _ e3
  omega
def RetRows (ls : List (List Nat)) (w : World) (e : Ending) (w' : World) : Prop :=
  ∃ A c L, e = .returned (.slice A ls.length c) ∧ w'.ownsRow w.heap.size 45 1 (.slice A ls.length c) ls.length L ∧ Rows w' w.heap.size L ls ∧ Below w.heap.size w w'
theorem RetRows.is {ls : List (List Nat)} {w : World} {e : Ending} {w' : World} (h : RetRows ls w e w') : ∃ A c L, e = .returned (.slice A ls.length c) ∧ w'.ownsRow w.heap.size 45 1 (.slice A ls.length c) ls.length L ∧ Rows w' w.heap.size L ls ∧ Below w.heap.size w w' ∧ At w' w'.heap.size A L ∧ Reads w' w'.heap.size L ls := by
  obtain ⟨A, c, L, h1, h2, h3, h4⟩ := h
  exact ⟨A, c, L, h1, h2, h3, h4, At.own h2, h3.reads⟩
theorem replicate_small (n : Nat) : Small (List.replicate n 0) := fun x hx => by rw [(List.mem_replicate.1 hx).2]; omega
end Go.Proofs.YtkganajbilnanaaGreat
namespace Go.Proofs.YtkganajbilnanaaGreat
open Go.ChangeShapes Go.WideShapes Go.RowKit Go.Deep
def IsBytes (w : World) (v : Value) : Prop := ∃ A c l, v = .slice A l.length c ∧ l.length ≤ c ∧ c ≤ maxLen ∧ Bytes w w.heap.size A l
def IsBlocks (w : World) (v : Value) : Prop := ∃ A c L ls, v = .slice A ls.length c ∧ ls.length ≤ c ∧ c ≤ maxLen ∧ At w w.heap.size A L ∧ Reads w w.heap.size L ls
theorem addr_form {w : World} {x : Addr} {v : Value} (h : w.cell? (x.add 0) = some v) : ∃ b o, x = ⟨b, o, none⟩ ∧ b < w.heap.size := by
  have hsp := World.cell?_spot h
  obtain ⟨b, o, sp⟩ := x
  have hsp' : sp = none := by simpa [Addr.add] using hsp
  subst hsp'
  refine ⟨b, o, rfl, ?_⟩
  rcases Nat.lt_or_ge b w.heap.size with q | q
  · exact q
  · simp only [World.cell?, Addr.add, if_pos] at h
    rw [Array.getElem?_eq_none q] at h
    cases h
theorem add_none (b o j : Nat) : (⟨b, o, none⟩ : Addr).add j = ⟨b, o + j, none⟩ := by
  unfold Addr.add
  split
  · subst_vars; rfl
  · rfl
theorem at_of {w : World} {x : Addr} {n : Nat} (V : Nat → Value) (h : ∀ r, r < n → w.cell? (x.add r) = some (V r)) : At w w.heap.size (some x) ((List.range n).map V) := fun j hj => by
  have hj' : j < n := by simpa using hj
  obtain ⟨b, o, rfl, hb⟩ := addr_form (h 0 (by omega))
  refine ⟨b, o, rfl, hb, ?_⟩
  rw [← add_none, h j hj']
  simp
theorem bytes_of {w : World} {A : Option Addr} {len cap : Nat} {zs : List Int} (hl : len ≤ cap) (hz : zs.length = cap) (hw : ∀ n ∈ zs, (Lit.int .u8 n).wf = true) (hn : A = none → cap = 0)
    (hc : ∀ a, A = some a → ∀ c, c < cap → w.cell? (a.add c) = some (.int .u8 (zs.getD c 0))) : ∃ l : List Nat, l.length = len ∧ Bytes w w.heap.size A l := by
  refine ⟨(zs.take len).map Int.toNat, by simp; omega, ?_, ?_⟩
  · cases A with
    | none =>
      have : len = 0 := by have := hn rfl; omega
      subst this
      exact At.nil _ _ _
    | some x =>
      have := at_of (w := w) (x := x) (n := len) (fun c => .int .u8 (zs.getD c 0)) (fun r hr => hc x rfl r (by omega))
      have e : ((List.range len).map fun c => Value.int .u8 (zs.getD c 0)) = ((zs.take len).map Int.toNat).map byteV := by
        apply List.ext_getElem
        · simp; omega
        · intro i h1 h2
          have hi : i < zs.length := by simp at h1; omega
          simp only [List.getElem_map, List.getElem_range, byteV, List.getElem_take]
          have hb := wf_u8 (hw zs[i] (List.getElem_mem hi))
          rw [List.getD_eq_getElem?_getD, List.getElem?_eq_getElem hi, Option.getD_some]
          congr 1
          omega
      rwa [e] at this
  · intro x hx
    obtain ⟨y, hy, rfl⟩ := List.mem_map.1 hx
    have := wf_u8 (hw y (List.mem_of_mem_take hy))
    omega
section
variable {H : Type} {enc : TypeId × Value → H} {P : Program} {w : World} {base : Nat} {held : Bool} {t : TypeId} {v : Value} {d : DataW H} {p : List MemPlace}
theorem bytes_trod {q : TypeId} {fuel : Nat} {x : DataW H × List MemPlace} {b0 : Nat} (ht : P.underlying t = some (.slice q)) (hq : P.underlying q = some (.int .u8)) (cq : P.cellsOf q = 1)
    (h : DataW.trod enc P w b0 (fun _ => true) held fuel t [v] = some x) : IsBytes w v := by
  rcases open_ints ht hq cq h with ⟨hcs, _⟩ | ⟨a, len, cap, zs, hcs, _, hl, hm, hz, _, hcell, hwz⟩
  · simp only [List.cons.injEq, and_true] at hcs
    exact ⟨none, 0, [], hcs, Nat.le_refl _, Nat.zero_le _, Bytes.nil _ _ _⟩
  · simp only [List.cons.injEq, and_true] at hcs
    obtain ⟨l, e, hb⟩ := bytes_of (w := w) (A := some a) hl (by simpa using hz) hwz (fun h => by cases h) (fun a' h' c hc => by cases h'; exact hcell c (by simp at hz; omega))
    subst e
    exact ⟨some a, cap, l, hcs, hl, hm, hb⟩
end
end Go.Proofs.YtkganajbilnanaaGreat
namespace Go.Proofs.YtkganajbilnanaaGreat
open Go.RowKit
theorem wp_append_at {P : Program} {w : World} {o : Oper} {a : Act} {K : Act → World → Prop} {Q : Exit → Act → World → Prop} (s x : Operand) (t t' : TypeId)
    (ho : o.op = .call { callee := .builtin .append, args := #[s, x], argTypes := #[t, t'] })
    (base : Nat) (e : TypeId) (i : TypeInfo) (z : Value) (bytes : Nat) (ht : P.underlying t = some (.slice e)) (ht' : P.underlying t' = some (.slice e)) (hi : P.info? e = some i) (hz : i.zero = some z)
    (hsize : i.size = 1) (hby : i.bytes = bytes) (hzs : z.cells.size = 1) (v : Value) (n : Nat) (xs : List Value) (hs : a.eval s = v) (hown : w.ownsRow base e 1 v n xs)
    (B : Nat) (A : Option Addr) (m c : Nat) (news : List Value) (hx : a.eval x = .slice A m c) (hm : news.length = m) (hr : At w B A news) (h1 : ∀ u ∈ news, u.oneCell' = true)
    (h63 : n + m ≤ maxLen) (hbytes : (n + m) * bytes ≤ 140737488355328) (hbase : base ≤ w.heap.size)
    (h : ∀ A' c' w', w'.ownsRow base e 1 (.slice A' (n + m) c') (n + m) (xs ++ news) → w.grownBy w' v.ownBlock → ((Value.slice A' (n + m) c').ownBlock = v.ownBlock ∨ (Value.slice A' (n + m) c').ownBlock = some w.heap.size) →
      K (a.put o.dst (.slice A' (n + m) c')) w') : o.wp P a w K Q := by
  have key : (Builtin.append_ #[t, t'] o.type #[v, .slice A m c]).run P w = (Builtin.append_ #[t, t] o.type #[v, .slice A m c]).run P w := by
    rcases hown.2 with ⟨rfl, rfl⟩ | ⟨g, cap, cur, rfl, _⟩ <;> cases A <;> simp [Builtin.append_, run_underlying ht, run_underlying ht']
  obtain ⟨A', c', w', hrun, h2, h3, h4⟩ := run_append_at (P := P) w base t o.type e i z bytes ht hi hz hsize hby hzs v n xs hown B A m c news hm hr h1 h63 hbytes hbase
  rw [← key] at hrun
  unfold Oper.wp execOp
  simp only [ho, resolve, invoke, builtin, Sem.run_bind, Sem.run_pure, Result.andThen_ok, List.map_toArray, List.map_cons, List.map_nil, hs, hx, hrun]
  exact h A' c' w' h2 h3 h4
theorem step_append_at {P : Program} {w : World} {ops : Array Oper} {o : Oper} {a : Act} {K : Act → World → Prop} {Q : Exit → Act → World → Prop} {E : Prop} (hgd : o.guard = none) (s x : Operand) (t t' : TypeId)
    (ho : o.op = .call { callee := .builtin .append, args := #[s, x], argTypes := #[t, t'] })
    (base : Nat) (e : TypeId) (i : TypeInfo) (z : Value) (bytes : Nat) (ht : P.underlying t = some (.slice e)) (ht' : P.underlying t' = some (.slice e)) (hi : P.info? e = some i) (hz : i.zero = some z)
    (hsize : i.size = 1) (hby : i.bytes = bytes) (hzs : z.cells.size = 1) (v : Value) (n : Nat) (xs : List Value) (hs : a.eval s = v) (hown : w.ownsRow base e 1 v n xs)
    (B : Nat) (A : Option Addr) (m c : Nat) (news : List Value) (hx : a.eval x = .slice A m c) (hm : news.length = m) (hr : At w B A news) (h1 : ∀ u ∈ news, u.oneCell' = true)
    (h63 : n + m ≤ maxLen) (hbytes : (n + m) * bytes ≤ 140737488355328) (hbase : base ≤ w.heap.size)
    (h : ∀ A' c' w', w'.ownsRow base e 1 (.slice A' (n + m) c') (n + m) (xs ++ news) → w.grownBy w' v.ownBlock → ((Value.slice A' (n + m) c').ownBlock = v.ownBlock ∨ (Value.slice A' (n + m) c').ownBlock = some w.heap.size) →
      K (a.put o.dst (.slice A' (n + m) c')) w') : if Region.wanted o (yielded ops a.tmps) = true then Oper.wp P o a w K Q else E := by
  have hw : Region.wanted o (yielded ops a.tmps) = true := by simp [Region.wanted, hgd]
  rw [if_pos hw]
  exact wp_append_at s x t t' ho base e i z bytes ht ht' hi hz hsize hby hzs v n xs hs hown B A m c news hx hm hr h1 h63 hbytes hbase h
theorem wpList_append_at2 {P : Program} {w : World} {ops : Array Oper} {rest : List Oper} {o : Oper} {a : Act} {Q : Exit → Act → World → Prop} (hgd : o.guard = none) (s x : Operand) (t t' : TypeId)
    (ho : o.op = .call { callee := .builtin .append, args := #[s, x], argTypes := #[t, t'] })
    (base : Nat) (e : TypeId) (i : TypeInfo) (z : Value) (bytes : Nat) (ht : P.underlying t = some (.slice e)) (ht' : P.underlying t' = some (.slice e)) (hi : P.info? e = some i) (hz : i.zero = some z)
    (hsize : i.size = 1) (hby : i.bytes = bytes) (hzs : z.cells.size = 1) (v : Value) (n : Nat) (xs : List Value) (hs : a.eval s = v) (hown : w.ownsRow base e 1 v n xs)
    (B : Nat) (A : Option Addr) (m c : Nat) (news : List Value) (hx : a.eval x = .slice A m c) (hm : news.length = m) (hr : At w B A news) (h1 : ∀ u ∈ news, u.oneCell' = true)
    (h63 : n + m ≤ maxLen) (hbytes : (n + m) * bytes ≤ 140737488355328) (hbase : base ≤ w.heap.size)
    (h : ∀ A' c' w', w'.ownsRow base e 1 (.slice A' (n + m) c') (n + m) (xs ++ news) → w.grownBy w' v.ownBlock → ((Value.slice A' (n + m) c').ownBlock = v.ownBlock ∨ (Value.slice A' (n + m) c').ownBlock = some w.heap.size) →
      wpList P ops Q rest (a.put o.dst (.slice A' (n + m) c')) w') : wpList P ops Q (o :: rest) a w :=
  wpList_plain hgd fun _ hK => wp_append_at s x t t' ho base e i z bytes ht ht' hi hz hsize hby hzs v n xs hs hown B A m c news hx hm hr h1 h63 hbytes hbase fun A' c' w' h2 h3 h4 => hK _ _ (h A' c' w' h2 h3 h4)
end Go.Proofs.YtkganajbilnanaaGreat
namespace Go.Proofs.YtkganajbilnanaaGreat
open Go.ChangeShapes Go.WideShapes Go.ChangeAt Go.RowKit
set_option maxRecDepth 20000
theorem strB_bne {l m : List Nat} (hl : Small l) (hm : Small m) : ((strB l).toList != (strB m).toList) = !decide (l = m) := by
  rw [bne, strB_beq hl hm]
set_option maxHeartbeats 2000000 in
theorem blocks_any (A A' : Option Addr) (c c' : Nat) (L L' : List Value) (ls ms : List (List Nat)) (B : Nat) (w : World) (h1 : At w B A L) (h2 : At w B A' L') (hr : Reads w B L ls) (hr' : Reads w B L' ms) (hn : ls.length ≤ 100000) :
    Calls Tryz.prog 95 #[.slice A ls.length c, .slice A' ms.length c'] w fun e w' => e = .returned (.bool (decide (ls = ms))) ∧ Drew w w' := by
  by_cases hlen : ls.length = ms.length
  · have hl1 : ((ls.length : Int) != (ms.length : Int)) = false := by rw [hlen]; simp
    go_enter Tryz.func95, Tryz.ntmps95
    go_wp2_with fail
    go_loopw [5] (fun i wr => ∃ k : Nat, k ≤ ls.length ∧ i = .int .i64 k ∧ ls.take k = ms.take k ∧ Drew w wr) (fun i _ => ls.length - (intOf i).toNat)
    case atStart => exact ⟨0, Nat.zero_le _, rfl, rfl, Drew.refl _⟩
    case round =>
      obtain ⟨k, hk, rfl, heq, hd⟩ := hrel
      rcases Nat.lt_or_ge k ls.length with hlt | hge
      · have hlt' : k < ms.length := by omega
        obtain ⟨A1, c1, e1, _, b1⟩ := hr.2 k _ (List.getElem?_eq_getElem hlt)
        obtain ⟨A2, c2, e2, _, b2⟩ := hr'.2 k _ (List.getElem?_eq_getElem hlt')
        obtain ⟨b, o, rfl, _, q1⟩ := h1 k (by rw [hr.1]; exact hlt)
        obtain ⟨b', o', rfl, _, q2⟩ := h2 k (by rw [hr'.1]; exact hlt')
        rw [← List.getElem?_eq_getElem, e1] at q1
        rw [← List.getElem?_eq_getElem, e2] at q2
        have p1 : wr.cell? ⟨b, o + k, none⟩ = some (.slice A1 ls[k].length c1) := by obtain ⟨m, rfl⟩ := hd; exact q1
        have p2 : wr.cell? ⟨b', o' + k, none⟩ = some (.slice A2 ms[k].length c2) := by obtain ⟨m, rfl⟩ := hd; exact q2
        have s1 := (b1.below (hd.below B))
        have s2 := (b2.below (hd.below B))
        have hbn := strB_bne s1.2 s2.2
        have t1 := List.take_succ_eq_append_getElem hlt
        have t2 := List.take_succ_eq_append_getElem hlt'
        have r1 := fun n => run_bytes_str (P := Tryz.prog) (w := wr.drewN n) (s1 : Bytes (wr.drewN n) B A1 ls[k]) 45 9 5 Tryz.underlying45 Tryz.underlying5 Tryz.underlying9 c1
        have r2 := fun n => run_bytes_str (P := Tryz.prog) (w := wr.drewN n) (s2 : Bytes (wr.drewN n) B A2 ms[k]) 45 9 5 Tryz.underlying45 Tryz.underlying5 Tryz.underlying9 c2
        clear e1 e2 q1 q2 h1 h2 hr hr' b1 b2 s1 s2
        have hx : ls[k] = ms[k] → ls.take (k + 1) = ms.take (k + 1) := fun e => by rw [t1, t2, heq, e]
        have hy : ls[k] ≠ ms[k] → ls ≠ ms := fun hne e => by subst e; exact hne rfl
        clear t1 t2 heq
        generalize ls[k] = x at *
        generalize ms[k] = y at *
        have hx := Lib.hid hx
        have hy := Lib.hid hy
        by_cases hxy : x = y
        · have hbn2 : ((strB x).toList != (strB y).toList) = false := by rw [hbn]; simp [hxy]
          have hbn3 : ((strB x).toList == (strB y).toList) = true := by rw [hxy]; simp
          have H := Lib.hid hxy
          clear hbn hxy
          go_wp2_with fail
          go_quiet (fail)
          generalize hwq : World.drewN _ _ = w2
          have hd2 : Drew w w2 := by rw [← hwq]; exact hd.more _
          clear hwq r1 r2 p1 p2
          go_wp2
          go_roundw
          case rel => exact ⟨k + 1, by omega, by go_num, hx.out H.out, hd2⟩
          case measure => simp [intOf]; omega
        · have hbn2 : ((strB x).toList != (strB y).toList) = true := by rw [hbn]; simp [hxy]
          have hbn3 : ((strB x).toList == (strB y).toList) = false := by rw [bne] at hbn2; simpa using hbn2
          have H := Lib.hid hxy
          clear hbn hxy
          go_wp2_with fail
          go_quiet (fail)
          generalize hwq : World.drewN _ _ = w2
          have hd2 : Drew w w2 := by rw [← hwq]; exact hd.more _
          clear hwq r1 r2 p1 p2
          go_wp2
          go_ret
          exact ⟨ret_bool (by rw [eq_comm, decide_eq_false_iff_not]; exact hy.out H.out), hd2⟩
      · have hk2 : k = ls.length := by omega
        subst hk2
        have H : ls = ms := by rwa [List.take_length, hlen, List.take_length] at heq
        have HH := Lib.hid H
        clear H heq h1 h2 hr hr'
        go_wp2
        go_ret
        exact ⟨ret_bool (by rw [eq_comm, decide_eq_true_iff]; exact HH.out), hd⟩
  · have hne : decide (ls = ms) = false := by rw [decide_eq_false_iff_not]; exact fun e => hlen (by rw [e])
    have hl1 : ((ls.length : Int) != (ms.length : Int)) = true := by simp; omega
    rw [hne]
    go_enter Tryz.func95, Tryz.ntmps95
    go_wp2
    go_ret
    exact ⟨rfl, Drew.refl _⟩
end Go.Proofs.YtkganajbilnanaaGreat
namespace Go.Proofs.YtkganajbilnanaaGreat
open Go.RowKit
section
variable {w w' : World} {L : List (Nat × TypeId × Array Value)}
end
end Go.Proofs.YtkganajbilnanaaGreat
namespace Go.Proofs.YtkganajbilnanaaGreat
open Go.ChangeShapes Go.WideShapes Go.ChangeAt Go.RowKit
theorem own_empty (w : World) (t : TypeId) : (w.alloc (.cells #[] t)).ownsRow w.heap.size t 1 (.slice (some ⟨w.heap.size, 0, none⟩) 0 0) 0 [] :=
  ⟨rfl, .inr ⟨w.heap.size, 0, #[], rfl, Nat.le_refl _, heap_alloc_new w _, Nat.le_refl _, Nat.zero_le _, rfl, rfl⟩⟩
set_option maxHeartbeats 1000000 in
theorem clone_any (A : Option Addr) (c : Nat) (l : List Nat) (B : Nat) (w : World) (h : Bytes w B A l) (hB : B ≤ w.heap.size) (hl : l.length ≤ 1000000) :
    Calls Tryz.prog 21 #[.slice A l.length c] w (RetBytes 5 l w) := by
  obtain ⟨i0, hi0, hz0, hz1, hz2⟩ := info_parts u8_info
  cases A with
  | none =>
    have e : l = [] := by
      rcases Nat.eq_zero_or_pos l.length with q | q
      · exact List.length_eq_zero_iff.1 q
      · obtain ⟨b, o, e, _⟩ := h.at_ q; cases e
    subst e
    have hq := fun W => run_eql_slice_nil (P := Tryz.prog) W 45 5 none 0 c Tryz.underlying45
    go_enter Tryz.func21, Tryz.ntmps21
    go_wp2
    go_ret
    exact ⟨none, 0, rfl, World.ownsRow_nil _ _ _ _, Below.refl _ _, fun x hx => by cases hx⟩
  | some a =>
    have hq := fun W => run_eql_slice_nil (P := Tryz.prog) W 45 5 (some a) l.length c Tryz.underlying45
    have h2 : Bytes (w.alloc (.cells #[] 5)) B (some a) l := h.alloc hB _
    have ho := own_empty w 5
    have hb0 : Below w.heap.size w (w.alloc (.cells #[] 5)) := (Below.refl _ _).alloc (Nat.le_refl _) _
    go_enter Tryz.func21, Tryz.ntmps21
    go_wp2_with (at_builtin; refine wpList_append_at2 rfl _ _ 45 45 rfl w.heap.size 5 i0 _ 1 Tryz.underlying45 Tryz.underlying45 hi0 hz0 hz1 hz2 rfl (.slice (some ⟨w.heap.size, 0, none⟩) 0 0) 0 [] rfl ho B (some a) l.length c (l.map byteV) rfl (by rw [List.length_map]) h2.1 (bytes_oneCell _) (by unfold maxLen; omega) (by omega) hb0.size ?_; intro A1 c1 w1 hown hg hat)
    go_ret
    refine ⟨A1, c1, ret_slice (by simp), ?_, below_own hb0 hg ho (Nat.le_refl _) hb0.size, h.2⟩
    simpa using hown
end Go.Proofs.YtkganajbilnanaaGreat
namespace Go.Proofs.YtkganajbilnanaaGreat.NumMath
def dec : List Nat → Nat
  | [] => 0
  | c :: l => c % 128 + 128 * dec l
def longF : Nat → Nat → List Nat
  | 0, n => [n]
  | f + 1, n => if n < 128 then [n] else (n % 128 + 128) :: longF f (n / 128)
def putF : Nat → Nat → List Nat
  | 0, _ => []
  | w + 1, n => n % 256 :: putF w (n / 256)
def getL : List Nat → Nat
  | [] => 0
  | b :: l => b + 256 * getL l
theorem putF_length (w n : Nat) : (putF w n).length = w := by
  induction w generalizing n with
  | zero => rfl
  | succ w ih => simp [putF, ih]
theorem putF_small (w n : Nat) : ∀ x ∈ putF w n, x < 256 := by
  induction w generalizing n with
  | zero => intro x hx; cases hx
  | succ w ih =>
    intro x hx
    rcases List.mem_cons.1 hx with rfl | hx
    · exact Nat.mod_lt _ (by omega)
    · exact ih _ x hx
theorem putF_snoc (w n : Nat) : putF (w + 1) n = putF w n ++ [n / 256 ^ w % 256] := by
  induction w generalizing n with
  | zero => simp [putF]
  | succ w ih =>
    have e : n / 256 / 256 ^ w = n / 256 ^ (w + 1) := by rw [Nat.div_div_eq_div_mul, Nat.pow_succ, Nat.mul_comm 256]
    rw [putF, ih (n / 256), e]
    rfl
theorem getL_put (w n : Nat) : getL (putF w n) = n % 256 ^ w := by
  induction w generalizing n with
  | zero => simp [putF, getL, Nat.mod_one]
  | succ w ih =>
    simp only [putF, getL, ih]
    rw [Nat.pow_succ, Nat.mul_comm (256 ^ w), Nat.mod_mul]
theorem getL_snoc (l : List Nat) (c : Nat) : getL (l ++ [c]) = getL l + c * 256 ^ l.length := by
  induction l with
  | nil => simp [getL]
  | cons b l ih =>
    simp only [List.cons_append, getL, ih, List.length_cons, Nat.pow_succ]
    rw [Nat.mul_add, Nat.add_assoc, Nat.mul_left_comm, Nat.mul_comm 256 (256 ^ l.length)]
theorem getL_lt (l : List Nat) (h : ∀ x ∈ l, x < 256) : getL l < 256 ^ l.length := by
  induction l with
  | nil => simp [getL]
  | cons b l ih =>
    have h1 := h b (by simp)
    have h2 := ih (fun x hx => h x (by simp [hx]))
    simp only [getL, List.length_cons, Nat.pow_succ]
    omega
theorem pow256 (k : Nat) : 256 ^ k = 2 ^ (8 * k) := by rw [Nat.pow_mul]
theorem pow_mod_big {n : Nat} (h : 64 ≤ n) : 2 ^ n % 18446744073709551616 = 0 := by
  obtain ⟨d, rfl⟩ : ∃ d, n = 64 + d := ⟨n - 64, by omega⟩
  rw [Nat.pow_add, show (2 : Nat) ^ 64 = 18446744073709551616 from by decide, Nat.mul_mod_right]
theorem pow_mod_small {n : Nat} (h : n < 64) : 2 ^ n % 18446744073709551616 = 2 ^ n := by
  have : 2 ^ n < 2 ^ 64 := Nat.pow_lt_pow_right (by omega) h
  exact Nat.mod_eq_of_lt (by simpa using this)
theorem pow_dbl (k : Nat) : (2 ^ k % 18446744073709551616 + 2 ^ k % 18446744073709551616) % 18446744073709551616 = 2 ^ (k + 1) % 18446744073709551616 := by
  rw [Nat.pow_succ]; omega
end Go.Proofs.YtkganajbilnanaaGreat.NumMath
namespace Go.Proofs.YtkganajbilnanaaGreat
open Go.ChangeShapes Go.WideShapes Go.ChangeAt Go.RowKit
open NumMath
set_option maxRecDepth 20000
def pwN (n : Nat) : Nat := 2 ^ n % 18446744073709551616
theorem pwN_lt (n : Nat) : pwN n < 18446744073709551616 := Nat.mod_lt _ (by omega)
theorem power_any (n : Nat) (w : World) (h1 : n < 18446744073709551616) :
    Calls Tryz.prog 121 #[.int .u64 n] w fun e w' => e = .returned (.int .u64 (pwN n : Nat)) ∧ w = w' := by
  go_enter Tryz.func121, Tryz.ntmps121
  go_wp2
  go_loop [3, 4] (fun x i => ∃ k p : Nat, k ≤ n ∧ k ≤ 64 ∧ p < 18446744073709551616 ∧ i = .int .u64 k ∧ x = .int .u64 p ∧ Hid (p = pwN k)) (fun _ i => 65 - (intOf i).toNat)
  case atStart => exact ⟨0, 1, by omega, by omega, by omega, rfl, rfl, rfl⟩
  case round =>
    obtain ⟨k, p, hk, hk2, hp, rfl, rfl, H⟩ := hrel
    rcases (show (k < n ∧ k < 64) ∨ (k < n ∧ k = 64) ∨ k = n from by omega) with ⟨hk3, hk4⟩ | ⟨hk3, hk4⟩ | hk3
    · have hpos : 0 < p := by
        rw [H.out, pwN, pow_mod_small hk4]
        exact Nat.two_pow_pos k
      go_wp2
      go_round
      case rel =>
        refine ⟨k + 1, pwN (k + 1), by omega, by omega, pwN_lt _, by go_num, ?_, rfl⟩
        have h := pow_dbl k
        have e : p = pwN k := H.out
        rw [IntKind.wrap_u64, e]
        congr 1
        unfold pwN
        omega
      case measure => simp [intOf]; omega
    · subst hk4
      obtain rfl : p = 0 := by rw [H.out]; rfl
      go_wp2
      go_ret
      exact ⟨ret_nat (by rw [pwN, pow_mod_big (by omega)]), rfl⟩
    · subst hk3
      go_wp2
      go_ret
      exact ⟨ret_nat H.out, rfl⟩
def putB (n : Nat) (k : Int) : List Nat := if 1 ≤ k ∧ k ≤ 8 then putF k.toNat n else []
theorem ret_none (T : TypeId) (w : World) : RetBytes T [] w (.returned (.slice none 0 0)) w := ⟨none, 0, rfl, World.ownsRow_nil _ _ _ _, Below.refl _ _, fun x hx => by cases hx⟩
def half (k j n : Nat) : List Nat := putF j n ++ List.replicate (k - j) 0
theorem half_zero (k n : Nat) : half k 0 n = List.replicate k 0 := by simp [half, putF]
theorem half_all (k n : Nat) : half k k n = putF k n := by simp [half]
theorem half_length {k j : Nat} (n : Nat) (h : j ≤ k) : (half k j n).length = k := by simp [half, putF_length]; omega
theorem half_next {k j : Nat} (n : Nat) (h : j < k) : (half k j n).set j (n / 256 ^ j % 256) = half k (j + 1) n := by
  unfold half
  rw [putF_snoc, show k - j = (k - (j + 1)) + 1 from by omega, List.replicate_succ, List.set_append_right _ _ (by rw [putF_length]; omega), putF_length, Nat.sub_self]
  simp
theorem put_any (n : Nat) (k : Int) (w : World) (h1 : n < 18446744073709551616) (h2 : -9223372036854775808 ≤ k) (h3 : k ≤ 9223372036854775807) :
    Calls Tryz.prog 112 #[.int .u64 n, .int .i64 k] w (RetBytes 5 (putB n k) w) := by
  obtain ⟨i0, hi0, hz0, hz1, hz2⟩ := info_parts u8_info
  rcases (show k < 1 ∨ (1 ≤ k ∧ k ≤ 8) ∨ 8 < k from by omega) with hk | hk | hk
  · have e : putB n k = [] := by unfold putB; rw [if_neg (by omega)]
    rw [e]
    clear e
    go_enter Tryz.func112, Tryz.ntmps112
    go_wp2
    go_ret
    exact ret_none 5 w
  · obtain ⟨m, rfl⟩ : ∃ m : Nat, k = m := ⟨k.toNat, by omega⟩
    have e : putB n m = putF m n := by unfold putB; rw [if_pos hk]; rfl
    rw [e]
    have hm1 : 1 ≤ m := by omega
    have hm2 : m ≤ 8 := by omega
    clear e hk h2 h3
    go_enter Tryz.func112, Tryz.ntmps112
    go_wp2_with (at_make; refine wpList_make_full _ rfl _ _ 45 rfl w.heap.size 5 i0 _ 1 Tryz.underlying45 hi0 hz0 hz1 .i64 .i64 _ _ m rfl rfl rfl rfl (by rw [hz2]; omega) (by unfold maxLen; omega) (Nat.le_refl _) ?_; intro w1 hown1 hg1)
    have hb1 : Below w.heap.size w w1 := (Below.refl _ _).grown hg1 (Nat.le_refl _) (by simp)
    obtain ⟨g, hgg⟩ : ∃ g, g = w.heap.size := ⟨_, rfl⟩
    have hown2 : w1.ownsRow w.heap.size 5 1 (.slice (some ⟨w.heap.size, 0, none⟩) m m) m ((half m 0 n).map byteV) := by
      have e : (madeCells (Value.int .u8 0).cells (m * 1)).toList = (half m 0 n).map byteV := by
        rw [Nat.mul_one, half_zero, List.map_replicate]
        exact toList_madeCells_one _ m
      rw [← e]
      exact hown1
    clear hown1 hg1 hgg
    go_loopw [17] (fun i wr => ∃ j : Nat, j ≤ m ∧ i = .int .i64 j ∧ wr.ownsRow w.heap.size 5 1 (.slice (some ⟨w.heap.size, 0, none⟩) m m) m ((half m j n).map byteV) ∧ Below w.heap.size w wr) (fun i _ => m - (intOf i).toNat)
    case atStart => exact ⟨0, by omega, rfl, hown2, hb1⟩
    case round =>
      clear hown2 hb1
      obtain ⟨j, hj, rfl, hown, hb⟩ := hrel
      rcases Nat.lt_or_ge j m with hlt | hge
      · have hz := hown.frozenAt j
        obtain ⟨v0, hv0⟩ : ∃ v0, wr.cell? ⟨w.heap.size, j, none⟩ = some v0 := by
          have := hown.cellAt j (by omega)
          rw [List.getElem?_eq_getElem (by rw [List.length_map, half_length n hj]; exact hlt)] at this
          exact ⟨_, this⟩
        have hst := Lib.hid (hown.stored j (byteV (n / 256 ^ j % 256)))
        have hf : (n : Int) / 2 ^ (8 * j) % 256 = ((n / 256 ^ j % 256 : Nat) : Int) := by
          rw [pow256, Int.natCast_emod, Int.natCast_ediv, Int.natCast_pow]; rfl
        have HF := Lib.hid hf
        clear hf
        go_wp2
        go_roundw
        case rel =>
          refine ⟨j + 1, by omega, by go_num, ?_, ?_⟩
          · rw [← half_next n hlt, List.map_set, HF.out]
            exact hst.out.1
          · exact hb.setCell (by exact Nat.le_refl _) _
        case measure => simp [intOf]; omega
      · obtain rfl : j = m := by omega
        rw [half_all] at hown
        go_wp2
        go_ret
        exact ⟨some ⟨w.heap.size, 0, none⟩, j, ret_slice (putF_length j n).symm, by rw [putF_length]; exact hown, hb, putF_small _ _⟩
  · have e : putB n k = [] := by unfold putB; rw [if_neg (by omega)]
    rw [e]
    clear e
    go_enter Tryz.func112, Tryz.ntmps112
    go_wp2
    go_ret
    exact ret_none 5 w
theorem one_new (w : World) (x : Nat) : At (w.alloc (.cells #[.int .u8 (x : Int)] 5)) (w.heap.size + 1) (some ⟨w.heap.size, 0, none⟩) [byteV x] := At.new w [byteV x] 5 (0, 0)
theorem refput_any (n : Nat) (k : Int) (w : World) (h1 : n < 18446744073709551616) (h2 : -9223372036854775808 ≤ k) (h3 : k ≤ 9223372036854775807) :
    Calls Tryz.prog 123 #[.int .u64 n, .int .i64 k] w (RetBytes 5 (putB n k) w) := by
  obtain ⟨i0, hi0, hz0, hz1, hz2⟩ := info_parts u8_info
  rcases (show k < 1 ∨ (1 ≤ k ∧ k ≤ 8) ∨ 8 < k from by omega) with hk | hk | hk
  · have e : putB n k = [] := by unfold putB; rw [if_neg (by omega)]
    rw [e]
    clear e
    go_enter Tryz.func123, Tryz.ntmps123
    go_wp2
    go_ret
    exact ret_none 5 w
  · obtain ⟨m, rfl⟩ : ∃ m : Nat, k = m := ⟨k.toNat, by omega⟩
    have e : putB n m = putF m n := by unfold putB; rw [if_pos hk]; rfl
    rw [e]
    have hm1 : 1 ≤ m := by omega
    have hm2 : m ≤ 8 := by omega
    clear e hk h2 h3
    go_enter Tryz.func123, Tryz.ntmps123
    go_wp2
    go_loopw [0, 5, 6] (fun q v i wr => ∃ (j d : Nat) (A : Option Addr) (c : Nat), j ≤ m ∧ i = .int .i64 j ∧ q = .int .u64 d ∧ d < 18446744073709551616 ∧ v = .slice A j c ∧ wr.ownsRow w.heap.size 5 1 (.slice A j c) j ((putF j n).map byteV) ∧ Below w.heap.size w wr ∧ Hid (d = n / 256 ^ j)) (fun _ _ i _ => m - (intOf i).toNat)
    case atStart => exact ⟨0, n, none, 0, by omega, rfl, rfl, h1, rfl, World.ownsRow_nil _ _ _ _, Below.refl _ _, by show n = n / 256 ^ 0; simp⟩
    case round =>
      obtain ⟨j, d, A, c, hj, rfl, rfl, hd, rfl, hown, hb, H⟩ := hrel
      rcases Nat.lt_or_ge j m with hlt | hge
      · obtain ⟨x, hx⟩ : ∃ x, d % 256 = x := ⟨_, rfl⟩
        have hxi : (d : Int) % 256 = (x : Int) := by omega
        have HX := Lib.hid hx
        have hsz := hb.size
        clear hx
        go_wp2_with (at_builtin; refine wpList_append_at rfl (.tmp 19) (.tmp 23) 45 rfl w.heap.size 5 i0 _ 1 Tryz.underlying45 hi0 hz0 hz1 hz2 rfl (.slice A j c) j ((putF j n).map byteV) rfl (hown.alloc _) (wr.heap.size + 1) (some ⟨wr.heap.size, 0, none⟩) 1 1 [byteV x] rfl rfl (one_new wr x) (bytes_oneCell [x]) (by unfold maxLen; omega) (by omega) (by rw [World.size_alloc]; omega) ?_; intro A1 c1 w1 hown1 hg1 hat1)
        go_roundw
        case rel =>
          refine ⟨j + 1, d / 256, A1, c1, by omega, by go_num, by go_num, by omega, by go_num, ?_, ?_, ?_⟩
          · rw [putF_snoc, ← H.out, HX.out, List.map_append]
            exact hown1
          · exact below_own (hb.alloc hsz _) hg1 (hown.alloc _) (Nat.le_refl _) (by rw [World.size_alloc]; omega)
          · show d / 256 = n / 256 ^ (j + 1)
            rw [H.out, Nat.div_div_eq_div_mul, Nat.pow_succ]
        case measure => simp [intOf]; omega
      · obtain rfl : j = m := by omega
        go_wp2
        go_ret
        exact ⟨A, c, ret_slice (putF_length j n).symm, by rw [putF_length]; exact hown, hb, putF_small _ _⟩
  · have e : putB n k = [] := by unfold putB; rw [if_neg (by omega)]
    rw [e]
    clear e
    go_enter Tryz.func123, Tryz.ntmps123
    go_wp2
    go_ret
    exact ret_none 5 w
theorem get_step (l : List Nat) (k c : Nat) (hs : Small l) (hk : k < l.length) (hk8 : k < 8) (hc : l[k] = c) :
    bits .or .u64 ((getL (l.take k) : Nat) : Int) (IntKind.u64.wrap ((c : Int) * 2 ^ (8 * k))) = ((getL (l.take (k + 1)) : Nat) : Int) := by
  have hlt := getL_lt (l.take k) (fun x hx => hs x (List.mem_of_mem_take hx))
  have hlen : (l.take k).length = k := by simp; omega
  rw [hlen, pow256] at hlt
  have hcs : c < 256 := by rw [← hc]; exact hs _ (List.getElem_mem hk)
  have e1 : (c : Int) * 2 ^ (8 * k) = ((c * 2 ^ (8 * k) : Nat) : Int) := by rw [Int.natCast_mul, Int.natCast_pow]; rfl
  have hp : 256 * 2 ^ (8 * k) ≤ 18446744073709551616 := by
    have : 2 ^ (8 * k + 8) ≤ 2 ^ 64 := Nat.pow_le_pow_right (by omega) (by omega)
    rw [Nat.pow_add] at this
    omega
  have hb : c * 2 ^ (8 * k) < 18446744073709551616 := by
    have : c * 2 ^ (8 * k) ≤ 255 * 2 ^ (8 * k) := Nat.mul_le_mul_right _ (by omega)
    have : 0 < 2 ^ (8 * k) := Nat.two_pow_pos _
    omega
  have e2 : IntKind.u64.wrap ((c * 2 ^ (8 * k) : Nat) : Int) = ((c * 2 ^ (8 * k) : Nat) : Int) := by rw [IntKind.wrap_u64]; omega
  have e3 : getL (l.take (k + 1)) = getL (l.take k) + c * 2 ^ (8 * k) := by
    rw [List.take_succ_eq_append_getElem hk, getL_snoc, hlen, pow256, hc]
  rw [e1, e2, u64_or_nat _ _ (by omega) hb, e3, Nat.or_comm, nat_join (8 * k) _ _ (Nat.mul_mod_left _ _) hlt, Nat.add_comm]
theorem take_min (l : List Nat) : l.take (min l.length 8) = l.take 8 := by
  rcases Nat.le_total l.length 8 with h | h
  · rw [Nat.min_eq_left h, List.take_length, List.take_of_length_le h]
  · rw [Nat.min_eq_right h]
theorem get8_lt (l : List Nat) (k : Nat) (hs : Small l) (hk : k ≤ 8) : getL (l.take k) < 18446744073709551616 := by
  have h := getL_lt (l.take k) (fun x hx => hs x (List.mem_of_mem_take hx))
  have : 256 ^ (l.take k).length ≤ 256 ^ 8 := Nat.pow_le_pow_right (by omega) (by simp; omega)
  omega
theorem get_any (A : Option Addr) (c : Nat) (l : List Nat) (B : Nat) (w : World) (h : Bytes w B A l) (hl : l.length ≤ 100000) (hlc : l.length ≤ c) :
    Calls Tryz.prog 76 #[.slice A l.length c] w fun e w' => e = .returned (.int .u64 (getL (l.take 8) : Nat)) ∧ w = w' := by
  obtain ⟨q, hmn, hq1, hq2, hq3⟩ : ∃ q : Nat, (if 8 < (l.length : Int) then (8 : Int) else (l.length : Int)) = (q : Int) ∧ q ≤ 8 ∧ q ≤ l.length ∧ q = min l.length 8 := ⟨min l.length 8, by split <;> omega, by omega, by omega, rfl⟩
  have HQ := Lib.hid hq3
  clear hq3
  go_enter Tryz.func76, Tryz.ntmps76
  go_wp2
  clear hmn
  go_loop [3, 12] (fun x i => ∃ k v : Nat, k ≤ q ∧ i = .int .i64 k ∧ x = .int .u64 v ∧ v < 18446744073709551616 ∧ Hid (v = getL (l.take k))) (fun _ i => q - (intOf i).toNat)
  case atStart => exact ⟨0, 0, by omega, rfl, rfl, by omega, rfl⟩
  case round =>
    obtain ⟨k, v, hk, rfl, rfl, hv, H⟩ := hrel
    rcases Nat.lt_or_ge k q with hlt | hge
    · obtain ⟨b, o, rfl, hb, hc, hx⟩ := h.at_ (k := k) (by omega)
      have hst := get_step l k l[k] h.2 (by omega) (by omega) rfl
      rw [← H.out] at hst
      obtain ⟨x, hxe⟩ : ∃ x, l[k] = x := ⟨_, rfl⟩
      rw [hxe] at hc hx hst
      obtain ⟨v', hv'⟩ : ∃ v', getL (l.take (k + 1)) = v' := ⟨_, rfl⟩
      have hv2 := get8_lt l (k + 1) h.2 (by omega)
      have HV := Lib.hid hv'
      rw [hv'] at hst hv2
      clear hxe hv'
      go_wp2
      go_round
      case rel => exact ⟨k + 1, v', by omega, by go_num, by go_num, hv2, HV.out.symm⟩
      case measure => simp [intOf]; omega
    · obtain rfl : k = q := by omega
      go_wp2
      go_ret
      exact ⟨ret_nat (by rw [H.out, HQ.out, take_min]), rfl⟩
theorem refget_step (l : List Nat) (k c v p : Nat) (hs : Small l) (hk : k < l.length) (hk8 : k < 8) (hc : l[k] = c) (hv : v = getL (l.take k)) (hp : p = pwN (8 * k)) :
    IntKind.u64.wrap ((v : Int) + IntKind.u64.wrap ((c : Int) * (p : Int))) = ((getL (l.take (k + 1)) : Nat) : Int) := by
  have hlen : (l.take k).length = k := by simp; omega
  have hlt := get8_lt l (k + 1) hs (by omega)
  have e3 : getL (l.take (k + 1)) = v + c * 2 ^ (8 * k) := by
    rw [List.take_succ_eq_append_getElem hk, getL_snoc, hlen, pow256, hc, hv]
  have e4 : p = 2 ^ (8 * k) := by rw [hp]; exact pow_mod_small (by omega)
  rw [e3] at hlt ⊢
  rw [e4, ← Int.natCast_mul, IntKind.wrap_u64, IntKind.wrap_u64]
  omega
theorem refget_any (A : Option Addr) (c : Nat) (l : List Nat) (B : Nat) (w : World) (h : Bytes w B A l) (hl : l.length ≤ 100000) :
    Calls Tryz.prog 84 #[.slice A l.length c] w fun e w' => e = .returned (.int .u64 (getL (l.take 8) : Nat)) ∧ Drew w w' := by
  go_enter Tryz.func84, Tryz.ntmps84
  go_wp2
  go_loopw [3, 4] (fun x i wr => ∃ k v : Nat, k ≤ 8 ∧ k ≤ l.length ∧ i = .int .i64 k ∧ x = .int .u64 v ∧ v < 18446744073709551616 ∧ Hid (v = getL (l.take k)) ∧ Drew w wr) (fun _ i _ => 8 - (intOf i).toNat)
  case atStart => exact ⟨0, 0, by omega, by omega, rfl, rfl, by omega, rfl, Drew.refl w⟩
  case round =>
    obtain ⟨k, v, hk, hk2, rfl, rfl, hv, H, hd⟩ := hrel
    rcases (show (k < 8 ∧ k < l.length) ∨ (k = 8 ∧ k < l.length) ∨ k = l.length from by omega) with ⟨hlt, hlt2⟩ | ⟨hlt, hlt2⟩ | hge
    · obtain ⟨b, o, rfl, hb, hc, hx⟩ := (h.below (hd.below B)).at_ (k := k) (by omega)
      have hst := refget_step l k l[k] v (pwN (8 * k)) h.2 hlt2 hlt rfl H.out rfl
      have hv2 := get8_lt l (k + 1) h.2 (by omega)
      obtain ⟨v', hv'⟩ : ∃ v', getL (l.take (k + 1)) = v' := ⟨_, rfl⟩
      obtain ⟨x, hxe⟩ : ∃ x, l[k] = x := ⟨_, rfl⟩
      obtain ⟨q, hqe⟩ : ∃ q, 8 * k = q := ⟨_, rfl⟩
      have HV := Lib.hid hv'
      rw [hv', hxe, hqe] at hst
      rw [hv'] at hv2
      rw [hxe] at hc hx
      have hq : 8 * (k : Int) = (q : Int) := by omega
      have hq2 : q < 18446744073709551616 := by omega
      clear hxe hv' hqe
      go_wp2_with fail
      go_quiet ((go_at_call 121; exact Calls.quiet_of_same ((power_any _ _ hq2).mono fun _ _ hh => ⟨hh.1, hh.2.symm⟩)))
      go_wp2
      go_roundw
      case rel => exact ⟨k + 1, v', by omega, by omega, by go_num, by go_num, hv2, HV.out.symm, hd.more _⟩
      case measure => simp [intOf]; omega
    · subst hlt
      go_wp2
      go_ret
      exact ⟨ret_nat H.out, hd⟩
    · go_wp2
      go_ret
      exact ⟨ret_nat (by rw [H.out, List.take_of_length_le (by omega), List.take_of_length_le (by omega)]), hd⟩
end Go.Proofs.YtkganajbilnanaaGreat
namespace Go.Proofs.YtkganajbilnanaaGreat
open Go.ChangeShapes Go.WideShapes Go.ChangeAt Go.RowKit
open NumMath
def RB (w0 w : World) (A : Option Addr) (n c : Nat) (l : List Nat) : Prop :=
  w.ownsRow w0.heap.size 5 1 (.slice A n c) n (l.map byteV) ∧ Below w0.heap.size w0 w ∧ Small l ∧ l.length = n
theorem RB.start (w : World) : RB w w none 0 0 [] := ⟨World.ownsRow_nil _ _ _ _, Below.refl _ _, (fun x hx => by cases hx), rfl⟩
theorem RB.keep {w0 w w' : World} {A : Option Addr} {n c : Nat} {l : List Nat} (h : RB w0 w A n c l) (hb : Below w.heap.size w w') : RB w0 w' A n c l :=
  ⟨kept_none (below_none hb) h.1, h.2.1.trans (hb.mono h.2.1.size), h.2.2⟩
theorem RB.alloc {w0 w : World} {A : Option Addr} {n c : Nat} {l : List Nat} (h : RB w0 w A n c l) (o : Obj) : RB w0 (w.alloc o) A n c l := h.keep ((Below.refl _ _).alloc (Nat.le_refl _) o)
theorem RB.bytes {w0 w : World} {A : Option Addr} {n c : Nat} {l : List Nat} (h : RB w0 w A n c l) : Bytes w w.heap.size A l := ⟨At.own h.1, h.2.2.1⟩
theorem RB.ret {w0 w w' : World} {A : Option Addr} {n c : Nat} {l : List Nat} (h : RB w0 w' A n c l) (hb : Below w.heap.size w w0) : RetBytes 5 l w (.returned (.slice A n c)) w' := by
  obtain ⟨h1, h2, h3, rfl⟩ := h
  exact ⟨A, c, rfl, own_base hb.size h1, hb.trans (h2.mono hb.size), h3⟩
theorem RB.of_ret {w0 w w' : World} {A : Option Addr} {n c : Nat} {l : List Nat} (hb : Below w0.heap.size w0 w) (ho : w'.ownsRow w.heap.size 5 1 (.slice A n c) n (l.map byteV)) (hb' : Below w.heap.size w w') (hs : Small l) (hn : l.length = n) : RB w0 w' A n c l :=
  ⟨own_base hb.size ho, hb.trans (hb'.mono hb.size), hs, hn⟩
theorem wpList_append_rb {w : World} {ops : Array Oper} {rest : List Oper} {o : Oper} {a : Act} {Q : Exit → Act → World → Prop} (hgd : o.guard = none) (s x : Operand) (t t' : TypeId)
    (ho : o.op = .call { callee := .builtin .append, args := #[s, x], argTypes := #[t, t'] })
    (ht : Tryz.prog.underlying t = some (.slice 5)) (ht' : Tryz.prog.underlying t' = some (.slice 5)) {w0 : World} {A : Option Addr} {n c : Nat} {l : List Nat} (h : RB w0 w A n c l) (hs : a.eval s = .slice A n c)
    (B : Nat) (A1 : Option Addr) (m c1 : Nat) (news : List Nat) (hx : a.eval x = .slice A1 m c1) (hb : Bytes w B A1 news) (hm : news.length = m) (hn : n + m ≤ 1000000)
    (k : ∀ A' c' w', RB w0 w' A' (n + m) c' (l ++ news) → wpList Tryz.prog ops Q rest (a.put o.dst (.slice A' (n + m) c')) w') : wpList Tryz.prog ops Q (o :: rest) a w := by
  obtain ⟨i0, hi0, hz0, hz1, hz2⟩ := info_parts u8_info
  refine wpList_append_at2 hgd s x t t' ho w0.heap.size 5 i0 _ 1 ht ht' hi0 hz0 hz1 hz2 rfl _ n (l.map byteV) hs h.1 B A1 m c1 (news.map byteV) hx (by rw [List.length_map, hm]) hb.1 (bytes_oneCell _) (by unfold maxLen; omega) (by omega) h.2.1.size ?_
  intro A' c' w' hown hg hat
  refine k A' c' w' ⟨by rw [List.map_append]; exact hown, below_own h.2.1 hg h.1 (Nat.le_refl _) h.2.1.size, small_append h.2.2.1 hb.2, by rw [List.length_append, h.2.2.2, hm]⟩
theorem one_bytes (w : World) {x : Nat} (hx : x < 256) : Bytes (w.alloc (.cells #[.int .u8 (x : Int)] 5)) (w.heap.size + 1) (some ⟨w.heap.size, 0, none⟩) [x] :=
  ⟨one_new w x, fun y hy => by simp at hy; omega⟩
theorem one_rb (w : World) {x : Nat} (hx : x < 256) : RB w (w.alloc (.cells #[.int .u8 (x : Int)] 5)) (some ⟨w.heap.size, 0, none⟩) 1 1 [x] := by
  refine ⟨⟨rfl, .inr ⟨w.heap.size, 1, #[.int .u8 (x : Int)], rfl, Nat.le_refl _, heap_alloc_new w _, Nat.le_refl _, by unfold maxLen; omega, rfl, rfl⟩⟩, (Below.refl _ _).alloc (Nat.le_refl _) _, fun y hy => by simp at hy; omega, rfl⟩
end Go.Proofs.YtkganajbilnanaaGreat
