/- page: compact. Conditions: the page lies there; its list is as it must be, and will be. -/
import Derived.Test.YtkknfccfgmflmaaPgClear
namespace Go.Proofs.Ytkknfccfgmflmaa
open Go.ChangeShapes Go.WideShapes Go.ChangeAt Go.RowKit
open NumMath
set_option linter.unusedVariables false
set_option linter.unusedSimpArgs false
set_option maxRecDepth 20000

theorem row_info : (Try.prog.info? 24).map (fun i => (i.zero, i.size, i.bytes)) = some (some (.slice none 0 0), 1, 24) := by kernel_rfl
theorem own_ty {w : World} {base : Nat} {e : TypeId} {size : Nat} {v : Value} {n : Nat} {xs : List Value} (h : w.ownsRow base e size v n xs) {b : Nat} (hb : v.ownBlock = some b) : ∃ cs f, w.heap[b]? = some (.cells cs e f) := by
  rcases h.2 with ⟨rfl, _⟩ | ⟨g, cap, cur, rfl, _, hgb, _⟩
  · cases hb
  · obtain rfl : g = b := by simpa [Value.ownBlock] using hb
    exact ⟨cur, _, hgb⟩
theorem rows_more2 {base : Nat} {wr w2 w5 : World} {L : List Value} {k c0 c2 m : Nat} {A0 A2 : Option Addr} {x : List Nat} {ls : List (List Nat)} (hbs : base ≤ wr.heap.size) (hown : wr.ownsRow base 24 1 (.slice A0 k c0) k L) (hr : Rows wr base L ls)
    (hb2 : Below wr.heap.size wr w2) (ho2 : w2.ownsRow wr.heap.size 5 1 (.slice A2 m c2) m (x.map byteV)) (hm : x.length = m) (hs2 : Small x)
    (hg5 : (w2.alloc (.cells #[.slice A2 m c2] 24)).grownBy w5 (Value.slice A0 k c0).ownBlock) :
    Rows w5 base (L ++ [.slice A2 m c2]) (ls ++ [x]) := by
  subst hm
  have hown2 := kept_none (below_none hb2) hown
  have ho2a := kept_none (below_none ((Below.refl w2.heap.size w2).alloc (Nat.le_refl _) (.cells #[.slice A2 x.length c2] 24))) ho2
  have hra := (hr.imp fun v l h => kept_none (below_none hb2) h).imp fun v l h => kept_none (below_none ((Below.refl w2.heap.size w2).alloc (Nat.le_refl _) (.cells #[.slice A2 x.length c2] 24))) h
  have hown2a := hown2.alloc (.cells #[.slice A2 x.length c2] 24)
  refine (hra.imp fun v l h => h.kept hg5 (own_apart (by decide) h hown2a)).snoc ?_
  exact ⟨⟨A2, c2, rfl⟩, own_base hbs (ho2a.kept hg5 (own_apart (by decide) ho2a hown2a)), hs2⟩
/-- the data of these slots are made noughts, one by one -/
def zapL (f : Nat → Nat) : List Nat → (Nat → Nat) → Nat → Nat
  | [], g => g
  | s :: r, g => zapL f r (upd g (atN f s) (List.replicate (lenN f s) 0))
/-- .. and what was there ahead of each -/
def gatL (f : Nat → Nat) : List Nat → (Nat → Nat) → List (List Nat)
  | [], _ => []
  | s :: r, g => cut g (atN f s) (lenN f s) :: gatL f r (upd g (atN f s) (List.replicate (lenN f s) 0))
theorem zapL_snoc (f : Nat → Nat) (l : List Nat) (s : Nat) (g : Nat → Nat) : zapL f (l ++ [s]) g = upd (zapL f l g) (atN f s) (List.replicate (lenN f s) 0) := by
  induction l generalizing g with
  | nil => rfl
  | cons x l ih => exact ih _
theorem gatL_snoc (f : Nat → Nat) (l : List Nat) (s : Nat) (g : Nat → Nat) : gatL f (l ++ [s]) g = gatL f l g ++ [cut (zapL f l g) (atN f s) (lenN f s)] := by
  induction l generalizing g with
  | nil => rfl
  | cons x l ih => exact congrArg (_ :: ·) (ih _)
theorem gatL_length (f : Nat → Nat) (l : List Nat) (g : Nat → Nat) : (gatL f l g).length = l.length := by
  induction l generalizing g with
  | nil => rfl
  | cons x l ih => exact congrArg (· + 1) (ih _)
theorem gatL_len (f : Nat → Nat) (l : List Nat) (g : Nat → Nat) {k : Nat} (hk : k < l.length) : ((gatL f l g)[k]'(by rw [gatL_length]; exact hk)).length = lenN f l[k] := by
  induction l generalizing g k with
  | nil => simp at hk
  | cons x l ih =>
    cases k with
    | zero => exact cut_length _ _ _
    | succ k => exact ih _ (by simpa using hk)
theorem zapL_same {f : Nat → Nat} (ho : Ok f) {l : List Nat} (hl : ∀ s ∈ l, s < cnt f ∧ 0 < lenN f s) {g : Nat → Nat} (hg : SameList f g) : SameList f (zapL f l g) := by
  induction l generalizing g with
  | nil => exact hg
  | cons x l ih =>
    have hx := hl x (List.mem_cons_self ..)
    have := ho.ent x hx.1
    exact ih (fun s hs => hl s (List.mem_cons_of_mem _ hs)) (hg.trans (SameList.upd _ _ (by rw [hg.cnt]; omega)))
/-- a slot's data are laid below what was laid ahead -/
def layS (p : Nat × (Nat → Nat)) (x : Nat × List Nat) : Nat × (Nat → Nat) := (p.1 - x.2.length, lst (upd p.2 (p.1 - x.2.length) x.2) x.1 (p.1 - x.2.length) x.2.length)
def layL (l : List (Nat × List Nat)) (g : Nat → Nat) : Nat × (Nat → Nat) := l.foldl layS (448, g)
theorem layL_snoc (l : List (Nat × List Nat)) (x : Nat × List Nat) (g : Nat → Nat) : layL (l ++ [x]) g = layS (layL l g) x := by
  unfold layL
  rw [List.foldl_append]
  rfl
def pairsF (f : Nat → Nat) : List (Nat × List Nat) := (slotsF f).zip (gatL f (slotsF f) f)
def laidF (f : Nat → Nat) : Nat → Nat := (layL (pairsF f) (zapL f (slotsF f) f)).2
def compF (f : Nat → Nat) : Nat → Nat := settleF (laidF f)
section
variable {w : World} {gp : Nat} {f : Nat → Nat}
set_option maxHeartbeats 8000000 in
theorem compact_any (h : PgAt w gp f) (ho : Ok f) (hok2 : Ok (laidF f)) (hfit : ∀ k, k < (slotsF f).length → (layL ((pairsF f).take k) (zapL f (slotsF f) f)).1 ≤ 448 ∧ lenN f ((slotsF f).getD k 0) ≤ (layL ((pairsF f).take k) (zapL f (slotsF f) f)).1) :
    Calls Try.prog 36 #[.pointer (some ⟨gp, 0, none⟩)] w fun e w' => e = .returned (.tuple #[]) ∧ PgPost gp (compF f) w w' := by
  obtain ⟨i0, hi0, hz0, hz1, hz2⟩ := info_parts row_info
  obtain ⟨j0, hj0, jz0, jz1, jz2⟩ := info_parts u8_info
  have cs := slots_any h ho
  have hgl := h.lt
  have hsl := slotsTo_len f (cnt f)
  rw [show slotsTo f (cnt f) = slotsF f from rfl] at hsl
  have hc40 := ho.c40
  have hmem : ∀ s ∈ slotsF f, s < cnt f ∧ 0 < lenN f s := fun s hs => slotsTo_mem hs
  have hcomp : compF f = settleF (laidF f) := rfl
  have hlaid : laidF f = (layL (pairsF f) (zapL f (slotsF f) f)).2 := rfl
  have hpairs : pairsF f = (slotsF f).zip (gatL f (slotsF f) f) := rfl
  rw [hcomp]
  generalize laidF f = gl at *
  generalize pairsF f = ps at *
  generalize slotsF f = ss at *
  obtain ⟨n, hn⟩ : ∃ n, ss.length = n := ⟨_, rfl⟩
  have HN := Lib.hid hn
  go_enter Try.func36, Try.ntmps36
  go_wp2_with fail
  refine cs.mono ?_
  rintro e w1 ⟨A, c, rfl, o1, b1⟩
  rw [hn] at o1 ⊢
  have h1 := h.below b1
  have hw1 := b1.size
  clear cs hn h hcomp
  have HPS := Lib.hid (And.intro hlaid (And.intro hpairs hfit))
  clear hlaid hpairs hfit
  go_wp2_with fail
  go_loopw [3, 5, 6, 7, 15] (fun v _ _ _ i wr => ∃ (k : Nat) (L : List Value), k ≤ n ∧ i = .int .i64 k ∧ wr.ownsRow w.heap.size 24 1 v k L ∧ Rows wr w.heap.size L (gatL f (ss.take k) f) ∧ PgPost gp (zapL f (ss.take k) f) w wr ∧ wr.ownsRow w.heap.size 3 1 (.slice A n c) n (ss.map intV)) (fun _ _ _ _ i _ => n - (intOf i).toNat)
  case atStart => exact ⟨0, [], Nat.zero_le _, rfl, World.ownsRow_nil _ _ _ _, by rw [List.take_zero]; exact Rows.nil _ _, by rw [List.take_zero]; exact ⟨h1, Only.of_below b1 _⟩, o1⟩
  case round =>
    clear h1 o1 b1 hw1
    obtain ⟨k, L, hk, rfl, hown, hrows, hp, o1⟩ := hrel
    obtain ⟨A0, c0, rfl, -, -⟩ := own_form hown
    have hwr := hp.2.size
    rcases Nat.lt_or_ge k n with hlt | hge
    · have e1 : decide ((k : Int) < (n : Int)) = true := by rw [decide_eq_true_iff]; omega
      have e2 : (0 : Int) ≤ (k : Int) := by omega
      have e3 : (k : Int) < (n : Int) := by omega
      have hkL : k < ss.length := by rw [HN.out]; exact hlt
      obtain ⟨b, rfl, hb1, hb2⟩ := own_pos o1 (by omega)
      have hc := (o1.cellAt k (by omega)).trans (by rw [List.getElem?_map, List.getElem?_eq_getElem hkL]; rfl : (ss.map intV)[k]? = some (intV ss[k]))
      have hs := hmem _ (List.getElem_mem hkL)
      have htk : ss.take (k + 1) = ss.take k ++ [ss[k]] := List.take_succ_eq_append_getElem hkL
      have n1 := zapL_snoc f (ss.take k) ss[k] f
      have n2 := gatL_snoc f (ss.take k) ss[k] f
      rw [← htk] at n1 n2
      have hsame : SameList f (zapL f (ss.take k) f) := zapL_same ho (fun s hs => hmem s (List.mem_of_mem_take hs)) (fun i _ _ _ => rfl)
      have hfit := ho.fit hs.1
      unfold intV at hc
      generalize ss[k] = s at *
      have hokz := hsame.ok ho
      have hsz : s < cnt (zapL f (ss.take k) f) := by rw [hsame.cnt]; exact hs.1
      have hent := hsame.ent hs.1
      generalize zapL f (ss.take k) f = g at *
      have hd := data_ok hp.1 hokz s hsz
      have hgt := getd_any hp.1 s (atN g s) (lenN g s) (hokz.fit hsz).1 hd
      rw [hent.1, hent.2] at hgt
      have hlen : (cut g (atN f s) (lenN f s)).length = lenN f s := cut_length _ _ _
      have hzs : ∀ i, upd g (atN f s) (List.replicate (lenN f s) 0) i < 256 := fun i => upd_small hp.1.small _ (zeros_small _) i
      have N1 := Lib.hid n1
      have N2 := Lib.hid n2
      have hdat2 := fun (W : World) (hP : PgAt W gp g) => data_ok hP hokz s hsz
      simp only [hent.1, hent.2] at hdat2
      unfold piece at hdat2
      clear n1 n2 htk hd hent hsame hokz hsz
      obtain ⟨x, hx⟩ : ∃ x, cut g (atN f s) (lenN f s) = x := ⟨_, rfl⟩
      rw [hx] at hgt hlen N2
      clear hx
      generalize hz : upd g (atN f s) (List.replicate (lenN f s) 0) = gz at *
      have HZ := Lib.hid hz
      clear hz
      generalize atN f s = a at *
      generalize lenN f s = y at *
      have hl0 : decide (0 < x.length) = true := by rw [decide_eq_true_iff, hlen]; exact hs.2
      go_wp2_with fail
      refine hgt.mono ?_
      rintro e w2 ⟨A2, c2, rfl, o2, b2, s2⟩
      rw [hlen] at o2 ⊢
      have hown2 := kept_below b2 hown
      have o12 := kept_below b2 o1
      have hw2 := b2.size
      have hpg2 := hp.1.below b2
      clear hgt
      go_wp2_with (at_builtin; refine wpList_append_at2 rfl _ _ 77 77 rfl w.heap.size 24 i0 _ 24 Try.underlying77 Try.underlying77 hi0 hz0 hz1 hz2 rfl (.slice A0 k c0) k L rfl (hown2.alloc _) (w2.heap.size + 1) (some ⟨w2.heap.size, 0, none⟩) 1 1 [.slice A2 y c2] rfl rfl (At.new w2 [.slice A2 y c2] 24 (0, 0)) (by simp [Value.oneCell']) (by unfold maxLen; omega) (by omega) (by rw [World.size_alloc]; omega) ?_; intro A5 c5 w5 hown5 hg5 hat5)
      have hr5 := rows_more2 hwr hown hrows b2 o2 hlen s2 hg5
      have a0 := (Below.refl w2.heap.size w2).alloc (Nat.le_refl _) (.cells #[.slice A2 y c2] 24)
      have hO5 : Only (fun b => (Value.slice A0 k c0).ownBlock = some b) (w2.alloc (.cells #[.slice A2 y c2] 24)) w5 := Only.of_grown hg5 fun b e => .inl e
      have hpg5 : PgAt w5 gp g := (hpg2.below a0).only hO5 (fun e => by have := (hown.lt _ e).1; omega)
      have o15 : w5.ownsRow w.heap.size 3 1 (.slice (some ⟨b, 0, none⟩) n c) n (ss.map intV) := (o12.alloc (.cells #[.slice A2 y c2] 24)).kept hg5 (own_apart (by decide) (o12.alloc (.cells #[.slice A2 y c2] 24)) (hown2.alloc (.cells #[.slice A2 y c2] 24)))
      have hp5 : PgPost gp g w w5 := ⟨hpg5, (((hp.2.trans (Only.of_below b2 (fun _ => False)) fun _ z => z.elim).trans (Only.of_below a0 (fun _ => False)) fun _ z => z.elim).trans (Only.of_grown hg5 (S := fun b => (Value.slice A0 k c0).ownBlock = some b) fun b e => .inl e) fun b e => .inr (hown.lt b e).1)⟩
      clear hg5 hat5 hO5 hpg2 hown2 o12 a0 hrows o2 s2 hpg5 b2 hown o1 hp
      have hd5 := hdat2 w5 hp5.1
      obtain ⟨w6, hrun, hb6, hg6⟩ := run_clear_blk (P := Try.prog) (w := w5) 24 0 5 Try.underlying24 j0 hj0 jz0 gp a y (448 - a) 67 g hp5.1.blk (by omega)
      have hp6 : PgPost gp gz w w6 := hp5.trans (PgPost.of_grown (by rw [← HZ.out]; exact hb6) hzs hg6)
      have hne : ∀ (t : TypeId) (s : Nat) (v : Value) (m : Nat) (xs : List Value), w5.ownsRow w.heap.size t s v m xs → w6.ownsRow w.heap.size t s v m xs := fun t s v m xs ho =>
        ho.kept hg6 (by cases hv : v.ownBlock with
          | none => simp
          | some q => right; intro e; injection e with e; have := (ho.lt q hv).1; omega)
      have hown6 := hne _ _ _ _ _ hown5
      have o16 := hne _ _ _ _ _ o15
      have hr6 := hr5.imp fun v l hv => hne _ _ _ _ _ hv
      have FIN := Lib.hid (And.intro hown6 (And.intro hr6 (And.intro hp6 o16)))
      clear hown6 hr6 hp6 o16 hne hr5 o15 hown5 hp5 hb6 hg6
      go_wp2_with fail
      refine hd5.mono ?_
      rintro e w7 ⟨rfl, rfl⟩
      clear hd5
      go_wp2
      go_roundw
      case rel => exact ⟨k + 1, _, by omega, by go_num, FIN.out.1, by rw [N2.out]; exact FIN.out.2.1, by rw [N1.out]; exact FIN.out.2.2.1, FIN.out.2.2.2⟩
      case measure => simp [intOf]; omega
    · obtain rfl : k = n := by omega
      have e1 : decide ((k : Int) < (k : Int)) = false := by rw [decide_eq_false_iff_not]; omega
      rw [List.take_of_length_le (by rw [HN.out]; omega)] at hrows hp
      have hbl := gatL_length f ss f
      have hbn : ∀ j (hj : j < ss.length) (hj' : j < (gatL f ss f).length), (gatL f ss f)[j].length = lenN f ss[j] := fun j hj _ => gatL_len f ss f hj
      have hs64 : ∀ s ∈ ss, s < 40 ∧ 0 < lenN f s ∧ lenN f s ≤ 64 := fun s hs => ⟨by have := (hmem s hs).1; omega, (hmem s hs).2, (ho.fit (hmem s hs).1).2.2⟩
      clear hmem
      generalize gatL f ss f = bs at *
      generalize zapL f ss f = g0 at *
      have hpl : ps.length = k := by rw [HPS.out.2.1, List.length_zip, hbl, HN.out]; omega
      have hpk : ∀ j (hj : j < k), ps.take (j + 1) = ps.take j ++ [(ss[j]'(by rw [HN.out]; exact hj), bs[j]'(by rw [hbl, HN.out]; exact hj))] := fun j hj => by
        rw [List.take_succ_eq_append_getElem (by omega)]
        congr 2
        simp only [HPS.out.2.1, List.getElem_zip]
      have HPK := Lib.hid (And.intro hpl (And.intro hpk (And.intro hbn hs64)))
      clear hpl hpk hbn hs64
      go_wp2_with fail
      go_loopw [8, 9, 10, 35] (fun v _ _ i wr => ∃ (j : Nat), j ≤ k ∧ i = .int .i64 j ∧ v = .int .i64 ((layL (ps.take j) g0).1 : Nat) ∧ wr.ownsRow w.heap.size 24 1 (.slice A0 k c0) k L ∧ Rows wr w.heap.size L bs ∧ PgPost gp (layL (ps.take j) g0).2 w wr ∧ wr.ownsRow w.heap.size 3 1 (.slice A k c) k (ss.map intV)) (fun _ _ _ i _ => k - (intOf i).toNat)
      case atStart => exact ⟨0, Nat.zero_le _, rfl, rfl, hown, hrows, hp, o1⟩
      case round =>
        clear hown hrows hp o1 hwr
        obtain ⟨j, hj, rfl, rfl, hown, hrows, hp, o1⟩ := hrel
        have hwr := hp.2.size
        rcases Nat.lt_or_ge j k with hlt | hge
        · have e3 : decide ((j : Int) < (k : Int)) = true := by rw [decide_eq_true_iff]; omega
          have e4 : (0 : Int) ≤ (j : Int) := by omega
          have e5 : (j : Int) < (k : Int) := by omega
          have hjs : j < ss.length := by rw [HN.out]; exact hlt
          have hjb : j < bs.length := by rw [hbl]; exact hjs
          have htk := HPK.out.2.1 j hlt
          have hfit := HPS.out.2.2 j hjs
          rw [List.getD_eq_getElem?_getD, List.getElem?_eq_getElem hjs, Option.getD_some] at hfit
          have hln := HPK.out.2.2.1 j hjs hjb
          have hs6 := HPK.out.2.2.2 _ (List.getElem_mem hjs)
          have n1 := layL_snoc (ps.take j) (ss[j], bs[j]) g0
          rw [← htk] at n1
          obtain ⟨b, rfl, hb1, hb2⟩ := own_pos o1 (by omega)
          have hc := (o1.cellAt j (by omega)).trans (by rw [List.getElem?_map, List.getElem?_eq_getElem hjs]; rfl : (ss.map intV)[j]? = some (intV ss[j]))
          obtain ⟨b', rfl, hb1', hb2'⟩ := own_pos hown (by omega)
          have hjL : j < L.length := by rw [hrows.1]; exact hjb
          obtain ⟨⟨A7, c7, e7⟩, ho7, hs7⟩ := hrows.2 j _ _ (List.getElem?_eq_getElem hjL) (List.getElem?_eq_getElem hjb)
          have hc2 := (hown.cellAt j (by omega)).trans (List.getElem?_eq_getElem hjL)
          rw [e7] at hc2 ho7
          unfold intV at hc
          generalize ss[j] = s at *
          generalize bs[j] = x at *
          rw [hln] at hc2 ho7
          generalize lenN f s = y at *
          generalize hly : layL (ps.take j) g0 = p at *
          clear hly htk e7
          obtain ⟨a, g⟩ := p
          dsimp only at hp hfit n1
          obtain ⟨a2, ha2⟩ : ∃ a2, a - y = a2 := ⟨_, rfl⟩
          have hn1 : layL (ps.take (j + 1)) g0 = (a2, lst (upd g a2 x) s a2 y) := by
            rw [n1]
            unfold layS
            dsimp only
            rw [hln, ha2]
          have N1 := Lib.hid hn1
          have t4 : (a : Int) - (y : Int) = (a2 : Int) := by omega
          have t5 : IntKind.i64.wrap (a2 : Int) = (a2 : Int) := by rw [IntKind.wrap_i64]; omega
          have ha3 : a2 + y ≤ 448 := by omega
          have ha4 : a2 ≤ 447 := by omega
          have t6 : (448 = a2) = False := eq_false (by omega)
          have t7 : (0 : Int) ≤ (a2 : Int) := by omega
          have t8 : (a2 : Int) ≤ 448 := by omega
          have hblk : Blk wr.drew gp 67 ((pgL g).map byteV).toArray := hp.1.blk
          have hbx : Bytes wr.drew wr.heap.size A7 x := (own_bytes ho7 hs7).below (below_drew0 wr)
          have hus : ∀ i, upd g a2 x i < 256 := fun i => upd_small hp.1.small _ hs7 i
          have fin : ∀ w5, Blk w5 gp 67 ((pgL (upd g a2 x)).map byteV).toArray → wr.drew.grownBy w5 (some gp) → PgPost gp (upd g a2 x) w w5 ∧ w5.ownsRow w.heap.size 24 1 (.slice (some ⟨b', 0, none⟩) k c0) k L ∧ Rows w5 w.heap.size L bs ∧ w5.ownsRow w.heap.size 3 1 (.slice (some ⟨b, 0, none⟩) k c) k (ss.map intV) := fun w5 hb5 hg5 => by
            have hne : ∀ (t : TypeId) (s : Nat) (v : Value) (m : Nat) (xs : List Value), wr.ownsRow w.heap.size t s v m xs → w5.ownsRow w.heap.size t s v m xs := fun t s v m xs ho =>
              (kept_below (below_drew0 wr) ho).kept hg5 (by cases hv : v.ownBlock with
                | none => simp
                | some q => right; intro e; injection e with e; have := (ho.lt q hv).1; omega)
            refine ⟨?_, hne _ _ _ _ _ hown, hrows.imp fun v l hv => hne _ _ _ _ _ hv, hne _ _ _ _ _ o1⟩
            have hpd : PgPost gp g w wr.drew := ⟨⟨hp.1.blk, hp.1.small⟩, (hp.2.trans (Only.of_below (below_drew0 wr) (fun _ => False)) fun _ z => z.elim)⟩
            exact hpd.trans (PgPost.of_grown hb5 hus hg5)
          have FIN := Lib.hid fin
          have nxt : ∀ w5 w6, PgPost gp (upd g a2 x) w w5 ∧ w5.ownsRow w.heap.size 24 1 (.slice (some ⟨b', 0, none⟩) k c0) k L ∧ Rows w5 w.heap.size L bs ∧ w5.ownsRow w.heap.size 3 1 (.slice (some ⟨b, 0, none⟩) k c) k (ss.map intV) → PgPost gp (lst (upd g a2 x) s a2 y) w5 w6 →
              w6.ownsRow w.heap.size 24 1 (.slice (some ⟨b', 0, none⟩) k c0) k L ∧ Rows w6 w.heap.size L bs ∧ PgPost gp (lst (upd g a2 x) s a2 y) w w6 ∧ w6.ownsRow w.heap.size 3 1 (.slice (some ⟨b, 0, none⟩) k c) k (ss.map intV) := fun w5 w6 h5 h6 => by
            have hne : ∀ (t : TypeId) (s : Nat) (v : Value) (m : Nat) (xs : List Value), w5.ownsRow w.heap.size t s v m xs → w6.ownsRow w.heap.size t s v m xs := fun t s v m xs ho =>
              h6.2.own ho fun q hv e => by have := (ho.lt q hv).1; omega
            exact ⟨hne _ _ _ _ _ h5.2.1, h5.2.2.1.imp fun v l hv => hne _ _ _ _ _ hv, h5.1.trans h6, hne _ _ _ _ _ h5.2.2.2⟩
          have NXT := Lib.hid nxt
          have hs40 := hs6.1
          clear fin nxt hown hrows hp o1 ho7 hn1 n1 hus
          go_wp2_with fail
          go_region_law
            (first
              | (refine step_copy_blk (by rfl) _ _ 24 24 (by rfl) 5 Try.underlying24 u8_one gp a2 (448 - a2) (448 - a2) 67 g (by rfl) hblk (by omega) wr.heap.size A7 y c7 x (by rfl) hln hbx (by omega) ?_; intro w5 hb5 hg5; have H5 := Lib.hid (FIN.out w5 hb5 hg5); have cl := list_any H5.out.1.1 s a2 y (by omega) (by omega) (by omega); clear hb5 hg5)
              | (go_simp; go_at_call 38; refine cl.mono ?_; intro e w6 hret; obtain ⟨rfl, hp6⟩ := hret; have H6 := Lib.hid (NXT.out w5 w6 H5.out hp6); clear hp6)
              | fail)
          all_goals
            go_wp2
            go_roundw
            case rel => exact ⟨j + 1, by omega, by go_num, by rw [N1.out], H6.out.1, H6.out.2.1, by rw [N1.out]; exact H6.out.2.2.1, H6.out.2.2.2⟩
            case measure => simp [intOf]; omega
        · obtain rfl : j = k := by omega
          have e3 : decide ((j : Int) < (j : Int)) = false := by rw [decide_eq_false_iff_not]; omega
          rw [List.take_of_length_le (by rw [HPK.out.1]; omega), ← HPS.out.1] at hp
          have c1 := settle_any hp.1 hok2
          clear hown hrows o1
          go_wp2_with fail
          refine c1.mono ?_
          rintro e w6 ⟨rfl, hp6⟩
          have FIN := Lib.hid (hp.trans hp6)
          clear c1 hp hp6
          go_wp2
          go_end0
          exact ⟨rfl, FIN.out⟩
end
end Go.Proofs.Ytkknfccfgmflmaa
