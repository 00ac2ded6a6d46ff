/- page: Slots, used, Free, settle. Conditions: the page lies there; its list is as it must be. -/
import Derived.Test.YtkknfccfgmflmaaPgSmall
namespace Go.Proofs.Ytkknfccfgmflmaa
open Go.ChangeShapes Go.WideShapes Go.ChangeAt Go.RowKit
open NumMath
set_option linter.unusedVariables false
set_option linter.unusedSimpArgs false
set_option maxRecDepth 20000

/-- the list of slots is as it must be -/
structure Ok (f : Nat → Nat) : Prop where
  c40 : cnt f ≤ 40
  ent : ∀ s, s < cnt f → (lenN f s = 0 ∧ atN f s = 0) ∨ (0 < lenN f s ∧ lenN f s ≤ 64 ∧ 16 + 4 * cnt f ≤ atN f s ∧ atN f s + lenN f s ≤ 448)
theorem Ok.fit {f : Nat → Nat} (h : Ok f) {s : Nat} (hs : s < cnt f) : atN f s + lenN f s ≤ 448 ∧ atN f s < 448 ∧ lenN f s ≤ 64 := by
  have := h.ent s hs
  omega
def slotsTo (f : Nat → Nat) (k : Nat) : List Nat := (List.range k).filter fun s => decide (0 < lenN f s)
def slotsF (f : Nat → Nat) : List Nat := slotsTo f (cnt f)
def usedTo (f : Nat → Nat) : Nat → Nat
  | 0 => 0
  | k + 1 => usedTo f k + lenN f k
def usedF (f : Nat → Nat) : Nat := usedTo f (cnt f)
theorem slotsTo_next (f : Nat → Nat) (k : Nat) : slotsTo f (k + 1) = slotsTo f k ++ (if 0 < lenN f k then [k] else []) := by
  unfold slotsTo
  rw [List.range_succ, List.filter_append]
  congr 1
  by_cases h : 0 < lenN f k
  · rw [if_pos h]; simp [h]
  · rw [if_neg h]; simp [h]
theorem slotsTo_len (f : Nat → Nat) (k : Nat) : (slotsTo f k).length ≤ k := by
  unfold slotsTo
  have := List.length_filter_le (fun s => decide (0 < lenN f s)) (List.range k)
  rw [List.length_range] at this
  exact this
theorem slotsTo_mem {f : Nat → Nat} {k s : Nat} (h : s ∈ slotsTo f k) : s < k ∧ 0 < lenN f s := by
  unfold slotsTo at h
  rw [List.mem_filter, List.mem_range] at h
  exact ⟨h.1, by simpa using h.2⟩
def intV (s : Nat) : Value := .int .i64 (s : Int)
def RetInts (l : List Nat) (w : World) (e : Ending) (w' : World) : Prop := ∃ A c, e = .returned (.slice A l.length c) ∧ w'.ownsRow w.heap.size 3 1 (.slice A l.length c) l.length (l.map intV) ∧ Below w.heap.size w w'
theorem int_info : (Try.prog.info? 3).map (fun i => (i.zero, i.size, i.bytes)) = some (some (.int .i64 0), 1, 8) := by kernel_rfl
section
variable {w : World} {gp : Nat} {f : Nat → Nat}
theorem data_ok (h : PgAt w gp f) (ho : Ok f) (s : Nat) (hs : s < cnt f) :
    Calls Try.prog 31 #[.pointer (some ⟨gp, 0, none⟩), .int .i64 s] w fun e w' => e = .returned (piece gp (atN f s) (lenN f s)) ∧ w = w' :=
  data_in h s hs ho.c40 (ho.fit hs).1 (ho.fit hs).2.1
set_option maxHeartbeats 2000000 in
theorem slots_any (h : PgAt w gp f) (ho : Ok f) :
    Calls Try.prog 12 #[.pointer (some ⟨gp, 0, none⟩)] w (RetInts (slotsF f) w) := by
  obtain ⟨i0, hi0, hz0, hz1, hz2⟩ := info_parts int_info
  have cc := count_any h
  have hc40 := ho.c40
  have hcc : slotsF f = slotsTo f (cnt f) := rfl
  rw [hcc]
  have hdat := fun s (hs : s < cnt f) (W : World) (hb : Below w.heap.size w W) => data_ok (h.below hb) ho s hs
  clear h hcc ho
  generalize cnt f = c at *
  go_enter Try.func12, Try.ntmps12
  go_wp2_with fail
  refine cc.mono ?_
  rintro e w1 ⟨rfl, rfl⟩
  clear cc
  go_wp2_with fail
  go_loopw [3, 4, 7] (fun v _ i wr => ∃ k : Nat, k ≤ c ∧ i = .int .i64 k ∧ wr.ownsRow w.heap.size 3 1 v (slotsTo f k).length ((slotsTo f k).map intV) ∧ Below w.heap.size w wr) (fun _ _ i _ => c - (intOf i).toNat)
  case atStart => exact ⟨0, Nat.zero_le _, rfl, World.ownsRow_nil _ _ _ _, Below.refl _ _⟩
  case round =>
    obtain ⟨k, hk, rfl, hown, hb⟩ := hrel
    obtain ⟨A0, c0, rfl, -, -⟩ := own_form hown
    rcases Nat.lt_or_ge k c with hlt | hge
    · have e1 : decide ((k : Int) < (c : Int)) = true := by rw [decide_eq_true_iff]; omega
      have cd := hdat k hlt wr hb
      have hnx := slotsTo_next f k
      have hsl := slotsTo_len f k
      unfold piece at cd
      generalize lenN f k = y at *
      generalize atN f k = x at *
      have hwr := hb.size
      by_cases hy : 0 < y
      · have t1 : decide ((0 : Int) < (y : Int)) = true := by rw [decide_eq_true_iff]; omega
        rw [if_pos hy] at hnx
        have HNX := Lib.hid hnx
        clear hnx t1
        generalize slotsTo f k = L at *
        obtain ⟨n, hn⟩ : ∃ n, L.length = n := ⟨_, rfl⟩
        rw [hn] at hown hsl
        have HN := Lib.hid hn
        rw [hn]
        clear hn
        go_wp2_with fail
        refine cd.mono ?_
        rintro e w2 ⟨rfl, rfl⟩
        clear cd
        go_wp2_with (at_builtin; refine wpList_append_at2 rfl _ _ 29 29 rfl w.heap.size 3 i0 _ 8 Try.underlying29 Try.underlying29 hi0 hz0 hz1 hz2 rfl (.slice A0 n c0) n (L.map intV) rfl (hown.alloc _) (wr.heap.size + 1) (some ⟨wr.heap.size, 0, none⟩) 1 1 [intV k] rfl rfl (At.new wr [intV k] 3 (0, 0)) (by simp [Value.oneCell', intV]) (by unfold maxLen; omega) (by omega) (by rw [World.size_alloc]; omega) ?_; intro A1 c1 w1 hown1 hg1 hat1; have hbn := (hb.alloc hwr (.cells #[intV k] 3)).grown hg1 (by rw [World.size_alloc]; omega) (fun b e => (hown.lt b e).1); have HO := Lib.hid (And.intro hown1 hbn); clear hown1 hg1 hat1 hbn)
        go_roundw
        case rel => exact ⟨k + 1, by omega, by go_num, by rw [HNX.out, List.length_append, List.map_append, HN.out]; exact HO.out.1, HO.out.2⟩
        case measure => simp [intOf]; omega
      · obtain rfl : y = 0 := by omega
        rw [if_neg hy, List.append_nil] at hnx
        have HNX := Lib.hid hnx
        clear hnx hy
        go_wp2_with fail
        refine cd.mono ?_
        rintro e w2 ⟨rfl, rfl⟩
        clear cd
        go_wp2
        go_roundw
        case rel => exact ⟨k + 1, by omega, by go_num, by rw [HNX.out]; exact hown, hb⟩
        case measure => simp [intOf]; omega
    · obtain rfl : k = c := by omega
      have e1 : decide ((k : Int) < (k : Int)) = false := by rw [decide_eq_false_iff_not]; omega
      clear hdat
      go_wp2
      go_ret
      exact ⟨A0, c0, rfl, hown, hb⟩
theorem usedTo_le (f : Nat → Nat) (k : Nat) (h : ∀ s, s < k → lenN f s ≤ 64) : usedTo f k ≤ 64 * k := by
  induction k with
  | zero => exact Nat.le_refl _
  | succ k ih =>
    have := h k (by omega)
    have := ih fun s hs => h s (by omega)
    show usedTo f k + lenN f k ≤ _
    omega
set_option maxHeartbeats 2000000 in
theorem used_any (h : PgAt w gp f) (ho : Ok f) :
    Calls Try.prog 34 #[.pointer (some ⟨gp, 0, none⟩)] w fun e w' => e = .returned (.int .i64 (usedF f : Nat)) ∧ w = w' := by
  have cc := count_any h
  have hc40 := ho.c40
  have hcc : usedF f = usedTo f (cnt f) := rfl
  rw [hcc]
  have hdat := fun s (hs : s < cnt f) => data_ok h ho s hs
  have hle := fun s (hs : s < cnt f) => (ho.fit hs).2.2
  clear h hcc ho
  generalize cnt f = c at *
  go_enter Try.func34, Try.ntmps34
  go_wp2_with fail
  refine cc.mono ?_
  rintro e w1 ⟨rfl, rfl⟩
  clear cc
  go_wp2_with fail
  go_loop [3, 4, 7] (fun v _ i => ∃ k : Nat, k ≤ c ∧ i = .int .i64 k ∧ v = .int .i64 (usedTo f k : Nat)) (fun _ _ i => c - (intOf i).toNat)
  case atStart => exact ⟨0, Nat.zero_le _, rfl, rfl⟩
  case round =>
    obtain ⟨k, hk, rfl, rfl⟩ := hrel
    have hub := usedTo_le f k fun s hs => hle s (by omega)
    rcases Nat.lt_or_ge k c with hlt | hge
    · have e1 : decide ((k : Int) < (c : Int)) = true := by rw [decide_eq_true_iff]; omega
      have cd := hdat k hlt
      have hl := hle k hlt
      have hnx : usedTo f (k + 1) = usedTo f k + lenN f k := rfl
      have HNX := Lib.hid hnx
      clear hnx
      unfold piece at cd
      generalize lenN f k = y at *
      generalize atN f k = x at *
      generalize usedTo f k = u at *
      go_wp2_with fail
      refine cd.mono ?_
      rintro e w2 ⟨rfl, rfl⟩
      clear cd
      go_wp2
      go_round
      case rel => exact ⟨k + 1, by omega, by go_num, by rw [HNX.out]; go_num⟩
      case measure => simp [intOf]; omega
    · obtain rfl : k = c := by omega
      have e1 : decide ((k : Int) < (k : Int)) = false := by rw [decide_eq_false_iff_not]; omega
      clear hdat hle
      go_wp2
      go_ret
      exact ⟨rfl, rfl⟩
def freeI (f : Nat → Nat) : Int := 448 - ((16 + 4 * cnt f : Nat) : Int) - (usedF f : Nat)
theorem free_any (h : PgAt w gp f) (ho : Ok f) :
    Calls Try.prog 15 #[.pointer (some ⟨gp, 0, none⟩)] w fun e w' => e = .returned (.int .i64 (freeI f)) ∧ w = w' := by
  have cc := count_any h
  have cu := used_any h ho
  have ce := end_any (cnt f) (by have := ho.c40; omega) w
  have hub := usedTo_le f (cnt f) fun s hs => (ho.fit hs).2.2
  have hc40 := ho.c40
  have hfr : freeI f = 448 - ((16 + 4 * cnt f : Nat) : Int) - (usedF f : Nat) := rfl
  rw [show usedTo f (cnt f) = usedF f from rfl] at hub
  rw [hfr]
  obtain ⟨q, hq⟩ : ∃ q, 16 + 4 * cnt f = q := ⟨_, rfl⟩
  rw [hq] at ce ⊢
  have hq2 : q ≤ 176 := by omega
  clear hfr h ho hq
  generalize usedF f = u at *
  generalize cnt f = c at *
  have t1 : IntKind.i64.wrap ((448 : Int) - (q : Int)) = 448 - (q : Int) := by rw [IntKind.wrap_i64]; omega
  have t2 : IntKind.i64.wrap ((448 : Int) - (q : Int) - (u : Int)) = 448 - (q : Int) - (u : Int) := by rw [IntKind.wrap_i64]; omega
  go_enter Try.func15, Try.ntmps15
  go_wp2_with fail
  refine cc.mono ?_
  rintro e w1 ⟨rfl, rfl⟩
  clear cc
  go_wp2_with fail
  refine ce.mono ?_
  rintro e w1 ⟨rfl, rfl⟩
  clear ce
  go_wp2_with fail
  refine cu.mono ?_
  rintro e w1 ⟨rfl, rfl⟩
  go_wp2
  go_ret
  exact ⟨rfl, rfl⟩
end
/-- what settle finds: one more than the last slot, the lowest place -/
def topC : List Nat → Nat → Nat
  | [], c => c
  | s :: r, _ => topC r (s + 1)
def lowC (f : Nat → Nat) : List Nat → Nat → Nat
  | [], m => m
  | s :: r, m => lowC f r (min m (atN f s))
def settleF (f : Nat → Nat) : Nat → Nat := wr (wr f 12 2 (topC (slotsF f) 0)) 14 2 (lowC f (slotsF f) 448)
theorem topC_snoc (l : List Nat) (s c : Nat) : topC (l ++ [s]) c = s + 1 := by
  induction l generalizing c with
  | nil => rfl
  | cons x l ih => exact ih _
theorem lowC_snoc (f : Nat → Nat) (l : List Nat) (s m : Nat) : lowC f (l ++ [s]) m = min (lowC f l m) (atN f s) := by
  induction l generalizing m with
  | nil => rfl
  | cons x l ih => exact ih _
theorem lowC_le (f : Nat → Nat) (l : List Nat) (m : Nat) : lowC f l m ≤ m := by
  induction l generalizing m with
  | nil => exact Nat.le_refl _
  | cons x l ih => exact Nat.le_trans (ih _) (Nat.min_le_left _ _)
theorem topC_le (l : List Nat) (c k : Nat) (hc : c ≤ k) (h : ∀ s ∈ l, s < k) : topC l c ≤ k := by
  induction l generalizing c with
  | nil => exact hc
  | cons x l ih => exact ih _ (h x (List.mem_cons_self ..)) fun s hs => h s (List.mem_cons_of_mem _ hs)
section
variable {w : World} {gp : Nat} {f : Nat → Nat}
set_option maxHeartbeats 4000000 in
theorem settle_any (h : PgAt w gp f) (ho : Ok f) :
    Calls Try.prog 39 #[.pointer (some ⟨gp, 0, none⟩)] w fun e w' => e = .returned (.tuple #[]) ∧ PgPost gp (settleF f) w w' := by
  have cs := slots_any h ho
  have hst : settleF f = wr (wr f 12 2 (topC (slotsF f) 0)) 14 2 (lowC f (slotsF f) 448) := rfl
  have hmem : ∀ s ∈ slotsF f, s < cnt f := fun s hs => (slotsTo_mem hs).1
  have hsl : (slotsF f).length ≤ cnt f := slotsTo_len f _
  have hc40 := ho.c40
  have HST := Lib.hid hst
  clear hst
  generalize slotsF f = L at *
  obtain ⟨n, hn⟩ : ∃ n, L.length = n := ⟨_, rfl⟩
  have HN := Lib.hid hn
  go_enter Try.func39, Try.ntmps39
  go_wp2_with fail
  refine cs.mono ?_
  rintro e w1 ⟨A, c, rfl, o1, b1⟩
  rw [hn] at o1 ⊢
  have h1 := h.below b1
  clear cs hn h
  go_wp2_with fail
  go_loop [2, 3, 5, 6, 7, 11] (fun x y _ _ _ i => ∃ k : Nat, k ≤ n ∧ i = .int .i64 k ∧ x = .int .i64 (topC (L.take k) 0 : Nat) ∧ y = .int .i64 (lowC f (L.take k) 448 : Nat)) (fun _ _ _ _ _ i => n - (intOf i).toNat)
  case atStart => exact ⟨0, Nat.zero_le _, rfl, rfl, rfl⟩
  case round =>
    obtain ⟨k, hk, rfl, rfl, rfl⟩ := hrel
    have hlw := lowC_le f (L.take k) 448
    have htp := topC_le (L.take k) 0 40 (by omega) (fun s hs => by have := hmem s (List.mem_of_mem_take hs); omega)
    rcases Nat.lt_or_ge k n with hlt | hge
    · have e1 : decide ((k : Int) < (n : Int)) = true := by rw [decide_eq_true_iff]; omega
      have e2 : (0 : Int) ≤ (k : Int) := by omega
      have e3 : (k : Int) < (n : Int) := by omega
      have hkL : k < L.length := by rw [HN.out]; exact hlt
      obtain ⟨b, rfl, -, -⟩ := own_pos o1 (by omega)
      have hc := (o1.cellAt k (by omega)).trans (by rw [List.getElem?_map, List.getElem?_eq_getElem hkL]; rfl : (L.map intV)[k]? = some (intV L[k]))
      have hs := hmem _ (List.getElem_mem hkL)
      have htk : L.take (k + 1) = L.take k ++ [L[k]] := List.take_succ_eq_append_getElem hkL
      have n1 := topC_snoc (L.take k) L[k] 0
      have n2 := lowC_snoc f (L.take k) L[k] 448
      rw [← htk] at n1 n2
      have ca := at_in h1 L[k] hs hc40
      have hat : atN f L[k] < 65536 := rd2_lt h1.small _
      unfold intV at hc
      generalize L[k] = s at *
      generalize atN f s = x at *
      generalize lenN f s = y at *
      generalize lowC f (L.take k) 448 = m at *
      generalize topC (L.take k) 0 = t at *
      have N1 := Lib.hid n1
      have N2 := Lib.hid n2
      clear n1 n2 htk
      rcases Nat.lt_or_ge x m with q | q
      · have q1 : (x : Int) < (m : Int) := by omega
        have q2 : ¬ (m : Int) ≤ (x : Int) := by omega
        go_wp2_with fail
        refine ca.mono ?_
        rintro e w2 ⟨rfl, rfl⟩
        clear ca
        go_wp2
        go_round
        case rel => exact ⟨k + 1, by omega, by go_num, by rw [N1.out]; go_num, by rw [N2.out, Nat.min_eq_right (by omega)]⟩
        case measure => simp [intOf]; omega
      · have q2 : (m : Int) ≤ (x : Int) := by omega
        go_wp2_with fail
        refine ca.mono ?_
        rintro e w2 ⟨rfl, rfl⟩
        clear ca
        go_wp2
        go_round
        case rel => exact ⟨k + 1, by omega, by go_num, by rw [N1.out]; go_num, by rw [N2.out, Nat.min_eq_left (by omega)]⟩
        case measure => simp [intOf]; omega
    · obtain rfl : k = n := by omega
      have e1 : decide ((k : Int) < (k : Int)) = false := by rw [decide_eq_false_iff_not]; omega
      rw [List.take_of_length_le (by rw [HN.out]; omega)] at *
      generalize lowC f L 448 = m at *
      generalize topC L 0 = t at *
      have c1 := pput_any h1 12 2 t (by omega) (by omega) (by omega) (by omega)
      have w1' : IntKind.u64.wrap (t : Int) = (t : Int) := by rw [IntKind.wrap_u64]; omega
      have w2' : IntKind.u64.wrap (m : Int) = (m : Int) := by rw [IntKind.wrap_u64]; omega
      clear o1 hmem h1
      go_wp2_with fail
      refine c1.mono ?_
      rintro e w2 ⟨rfl, hp⟩
      have c2 := pput_any hp.1 14 2 m (by omega) (by omega) (by omega) (by omega)
      clear c1
      go_wp2_with fail
      refine c2.mono ?_
      rintro e w3 ⟨rfl, hp2⟩
      have FIN := Lib.hid (PgPost.from b1 (hp.trans hp2))
      clear c2 hp hp2
      go_wp2
      go_end0
      exact ⟨rfl, by rw [HST.out]; exact FIN.out⟩
end
end Go.Proofs.Ytkknfccfgmflmaa
