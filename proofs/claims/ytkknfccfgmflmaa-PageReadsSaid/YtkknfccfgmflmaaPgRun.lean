/- The laws' helpers known and run. Conditions: none. -/
import Derived.Test.YtkknfccfgmflmaaPgOps
import Derived.Deep.DrawnRows
namespace Go.Proofs.Ytkknfccfgmflmaa
open Go.ChangeShapes Go.WideShapes Go.ChangeAt Go.RowKit
open NumMath
set_option linter.unusedVariables false
set_option linter.unusedSimpArgs false
set_option maxRecDepth 20000

theorem setP_fits {f : Nat → Nat} (h : Sound f) (s : Nat) (hs : s < 40) {d : List Nat} (h1 : 1 ≤ d.length) (h2 : d.length ≤ 64) (hf : 16 + 4 * max (topN (oldN f) 40) (s + 1) + (totN (oldN f) 40 - oldN f s) + d.length ≤ 448) : (setP f s d).1 = 0 := by
  unfold setP
  rw [if_pos ⟨by omega, by omega, h1, h2⟩, Int.toNat_natCast, if_neg]
  unfold needC
  rw [cnt_top h, used_tot h.ok.c40]
  omega
theorem oldN_of {f : Nat → Nat} {n : Nat → Nat} (h : ∀ t : Nat, (dat f t).length = n t) : oldN f = n := funext fun t => (dat_length f t).symm.trans (h t)
def knF1 : Nat → Nat := (setP (newF 7) ((1 : Nat) : Int) [1, 2]).2
def knF2 : Nat → Nat := (setP knF1 ((0 : Nat) : Int) (List.replicate 64 0)).2
def knF3 : Nat → Nat := (clearP knF2 ((1 : Nat) : Int)).2
theorem kn1 : Sound knF1 ∧ (setP (newF 7) ((1 : Nat) : Int) [1, 2]).1 = 0 ∧ oldN knF1 = (fun t => if t = 1 then 2 else 0) ∧ rd knF1 8 4 = 7 := by
  obtain ⟨h0, d0⟩ := new_sound 7
  have o0 : oldN (newF 7) = fun _ => 0 := oldN_of fun t => by rw [d0]; rfl
  have hc : (setP (newF 7) ((1 : Nat) : Int) [1, 2]).1 = 0 := setP_fits h0 1 (by omega) (by decide) (by decide) (by rw [o0]; decide)
  obtain ⟨h1, h2, h3, -⟩ := setP_sound h0 ((1 : Nat) : Int) (d := [1, 2]) (fun x hx => by simp at hx; omega)
  refine ⟨h1, hc, oldN_of fun t => ?_, ?_⟩
  · show (dat (setP (newF 7) ((1 : Nat) : Int) [1, 2]).2 t).length = _
    rw [h3 t, hc]
    by_cases e : t = 1
    · subst e; rfl
    · rw [if_neg (fun q => e (by omega)), if_neg e, d0]; rfl
  · have : rd knF1 8 4 = rd (newF 7) 8 4 := rd_congr fun i a b => h2 i (by omega)
    rw [this]
    decide
theorem kn2 : Sound knF2 ∧ (setP knF1 ((0 : Nat) : Int) (List.replicate 64 0)).1 = 0 ∧ oldN knF2 = (fun t => if t = 0 then 64 else if t = 1 then 2 else 0) := by
  obtain ⟨h0, -, o0, -⟩ := kn1
  have hc : (setP knF1 ((0 : Nat) : Int) (List.replicate 64 0)).1 = 0 := setP_fits h0 0 (by omega) (by decide) (by decide) (by rw [o0]; decide)
  obtain ⟨h1, h2, h3, -⟩ := setP_sound h0 ((0 : Nat) : Int) (d := List.replicate 64 0) (zeros_small 64)
  refine ⟨h1, hc, oldN_of fun t => ?_⟩
  show (dat (setP knF1 ((0 : Nat) : Int) (List.replicate 64 0)).2 t).length = _
  rw [h3 t, hc]
  by_cases e : t = 0
  · subst e; rfl
  · rw [if_neg (fun q => e (by omega)), if_neg e, dat_length, o0]
theorem kn3 : Sound knF3 ∧ (clearP knF2 ((1 : Nat) : Int)).1 = true ∧ oldN knF3 = (fun t => if t = 1 then 0 else if t = 0 then 64 else 0) := by
  obtain ⟨h0, -, o0⟩ := kn2
  obtain ⟨h1, h2, h3⟩ := clearP_sound h0 ((1 : Nat) : Int)
  refine ⟨h1, ?_, oldN_of fun t => ?_⟩
  · show (if (0 : Int) ≤ ((1 : Nat) : Int) then (decide (0 < oldN knF2 ((1 : Nat) : Int).toNat), clrF knF2 ((1 : Nat) : Int).toNat) else (false, knF2)).1 = true
    rw [o0]
    rfl
  · show (dat (clearP knF2 ((1 : Nat) : Int)).2 t).length = _
    rw [h3 t]
    by_cases e : t = 1
    · subst e; rfl
    · rw [if_neg (by omega), if_neg e, dat_length, o0]
      show (if t = 0 then 64 else if t = 1 then 2 else 0) = _
      rw [if_neg e]
theorem knFree : freeI knF1 = 422 ∧ freeI knF3 = 364 := by
  obtain ⟨h1, -, o1, -⟩ := kn1
  obtain ⟨h3, -, o3⟩ := kn3
  rw [free_eq h1, free_eq h3, o1, o3]
  decide
theorem in_new {w w' : World} {gp : Nat} {A : Option Addr} {n c : Nat} {l : List Nat} (h : w'.ownsRow w.heap.size 5 1 (.slice A n c) n (l.map byteV)) (hs : Small l) (hg : gp < w.heap.size) : BytesIn w' (fun b => b ≠ gp) A l :=
  ⟨(AtIn.own h).mono fun b q e => by have := (h.lt b q.symm).1; omega, hs⟩
theorem in_lit (w : World) {gp : Nat} (l : List Nat) (hs : Small l) (hg : gp < w.heap.size) : BytesIn (w.alloc (.cells (l.map byteV).toArray 5)) (fun b => b ≠ gp) (some ⟨w.heap.size, 0, none⟩) l := by
  refine ⟨fun j hj => ?_, hs⟩
  obtain ⟨b, o, e, _, hc⟩ := At.new w (l.map byteV) 5 (0, 0) j hj
  injection e with e
  injection e with e1 e2
  subst e1
  subst e2
  exact ⟨_, _, rfl, by omega, by simp, hc⟩
set_option maxHeartbeats 4000000 in
theorem known_any (w : World) : Calls Try.prog 10 #[] w fun e w' => e = .returned (.bool true) ∧ Below w.heap.size w w' := by
  obtain ⟨s1, k1, -, n1⟩ := kn1
  obtain ⟨s2, k2, -⟩ := kn2
  obtain ⟨s3, k3, -⟩ := kn3
  obtain ⟨fr1, fr3⟩ := knFree
  obtain ⟨i0, hi0, hz0, hz1, hz2⟩ := info_parts u8_info
  have K2 : (setP knF2 ((40 : Nat) : Int) [1]).1 = 91 ∧ (setP knF2 ((40 : Nat) : Int) [1]).2 = knF2 := by
    unfold setP
    rw [if_neg (by omega)]
    exact ⟨rfl, rfl⟩
  go_enter Try.func10, Try.ntmps10
  go_wp2_with fail
  refine (new_any 7 (by omega) w).mono ?_
  rintro e w1 ⟨rfl, hp1, b1⟩
  have hlt1 := hp1.lt
  obtain ⟨gp, hgp⟩ : ∃ gp, w.heap.size = gp := ⟨_, rfl⟩
  rw [hgp] at hp1 hlt1 ⊢
  have hgw : w.heap.size ≤ gp := by omega
  clear hgp
  have a1 := (Below.refl w1.heap.size w1).alloc (Nat.le_refl _) (.cells #[.int .u8 1, .int .u8 2] 5)
  have hb2 : BytesIn (w1.alloc (.cells #[.int .u8 1, .int .u8 2] 5)) (fun b => b ≠ gp) (some ⟨w1.heap.size, 0, none⟩) [1, 2] := in_lit w1 [1, 2] (fun x hx => by simp at hx; omega) hlt1
  have c1 := set_any (hp1.below a1) (new_sound 7).1 ((1 : Nat) : Int) (some ⟨w1.heap.size, 0, none⟩) 2 [1, 2] hb2
  rw [k1, show (setP (newF 7) ((1 : Nat) : Int) [1, 2]).2 = knF1 from rfl, show ([1, 2] : List Nat).length = 2 from rfl] at c1
  have bw2 := b1.trans (a1.mono b1.size)
  clear hb2 hp1 a1 b1
  go_wp2_with fail
  generalize World.alloc w1 _ = w2 at *
  refine c1.mono ?_
  rintro e w3 ⟨rfl, hp3⟩
  have hb3 : Below w.heap.size w w3 := bw2.trans (hp3.2.below bw2.size fun b e => by omega)
  have hp4 := hp3.1
  clear c1 bw2 hp3
  have cF := free_any hp4 s1.ok
  have cN := number_any hp4
  rw [fr1] at cF
  rw [n1] at cN
  go_wp2_with fail
  refine cF.mono ?_
  rintro e w4 ⟨rfl, rfl⟩
  go_wp2_with fail
  refine cN.mono ?_
  rintro e w4 ⟨rfl, rfl⟩
  clear cF cN
  go_wp2_with (at_make; refine wpList_make_full _ rfl _ _ 24 rfl w3.heap.size 5 i0 _ 1 Try.underlying24 hi0 hz0 hz1 .i64 .i64 _ _ 64 rfl rfl rfl rfl (by rw [hz2]; omega) (by unfold maxLen; omega) (Nat.le_refl _) ?_; intro w4 hown4 hg4)
  have b4 : Below w3.heap.size w3 w4 := (Below.refl _ _).grown hg4 (Nat.le_refl _) (by simp)
  have o4 : w4.ownsRow w3.heap.size 5 1 (.slice (some ⟨w3.heap.size, 0, none⟩) 64 64) 64 ((List.replicate 64 0).map byteV) := by
    have e : (madeCells (Value.int .u8 0).cells (64 * 1)).toList = (List.replicate 64 0).map byteV := by
      rw [Nat.mul_one, List.map_replicate]
      exact toList_madeCells_one _ 64
    rw [← e]
    exact hown4
  have c2 := set_any (hp4.below b4) s1 ((0 : Nat) : Int) (some ⟨w3.heap.size, 0, none⟩) 64 (List.replicate 64 0) (in_new o4 (zeros_small 64) hp4.lt)
  rw [k2, show (setP knF1 ((0 : Nat) : Int) (List.replicate 64 0)).2 = knF2 from rfl, List.length_replicate] at c2
  have bw4 := hb3.trans (b4.mono hb3.size)
  clear hown4 hg4 o4 hp4 b4 hb3
  refine c2.mono ?_
  rintro e w5 ⟨rfl, hp5⟩
  have hb5 : Below w.heap.size w w5 := bw4.trans (hp5.2.below bw4.size fun b e => by omega)
  have hp6 := hp5.1
  clear c2 bw4 hp5
  have a5 := (Below.refl w5.heap.size w5).alloc (Nat.le_refl _) (.cells #[.int .u8 1] 5)
  have hb6 : BytesIn (w5.alloc (.cells #[.int .u8 1] 5)) (fun b => b ≠ gp) (some ⟨w5.heap.size, 0, none⟩) [1] := in_lit w5 [1] (fun x hx => by simp at hx; omega) hp6.lt
  have c3 := set_any (hp6.below a5) s2 ((40 : Nat) : Int) (some ⟨w5.heap.size, 0, none⟩) 1 [1] hb6
  rw [K2.1, K2.2, show ([1] : List Nat).length = 1 from rfl] at c3
  have bw6 := hb5.trans (a5.mono hb5.size)
  clear hb6 hp6 a5 hb5
  go_wp2_with fail
  generalize World.alloc w5 _ = w6 at *
  refine c3.mono ?_
  rintro e w7 ⟨rfl, hp7⟩
  have hb7 : Below w.heap.size w w7 := bw6.trans (hp7.2.below bw6.size fun b e => by omega)
  have c4 := clear_any hp7.1 s2 ((1 : Nat) : Int)
  rw [k3, show (clearP knF2 ((1 : Nat) : Int)).2 = knF3 from rfl] at c4
  clear c3 bw6 hp7
  go_wp2_with fail
  refine c4.mono ?_
  rintro e w8 ⟨rfl, hp8⟩
  have hb8 : Below w.heap.size w w8 := hb7.trans (hp8.2.below hb7.size fun b e => by omega)
  have cF := free_any hp8.1 s3.ok
  rw [fr3] at cF
  clear c4 hp8 hb7
  go_wp2_with fail
  refine cF.mono ?_
  rintro e w9 ⟨rfl, rfl⟩
  clear cF
  go_wp2
  go_ret
  exact ⟨rfl, hb8⟩
def stmp (f : Nat → Nat) (v : Nat) : Nat → Nat := wr f 0 8 v
theorem stmp_any {w : World} {gp : Nat} {f : Nat → Nat} (h : PgAt w gp f) (v : Nat) (hv : v < 18446744073709551616) :
    Calls Try.prog 23 #[.pointer (some ⟨gp, 0, none⟩), .int .u64 v] w fun e w' => e = .returned (.tuple #[]) ∧ PgPost gp (stmp f v) w w' := stamp_any h v hv
/-- what a call makes of a page -/
def stepP (f : Nat → Nat) (x : OpP) : Nat → Nat :=
  if x.kind % 8 = 5 then (clearP f x.slot).2 else if x.kind % 8 = 7 then wr f 0 8 x.lsn else (setP f x.slot x.data).2
def runF (n : Nat) (l : List OpP) : Nat → Nat := l.foldl stepP (newF n)
theorem stepP_sound {f : Nat → Nat} (h : Sound f) (x : OpP) (hx : Small x.data) : Sound (stepP f x) ∧ ∀ i, 8 ≤ i → i < 12 → stepP f x i = f i := by
  unfold stepP
  split
  · exact ⟨(clearP_sound h _).1, fun i _ hi => (clearP_sound h _).2.1 i hi⟩
  · split
    · exact ⟨(stamp_sound h _).1, fun i hi _ => (stamp_sound h _).2.1 i hi⟩
    · exact ⟨(setP_sound h _ hx).1, fun i _ hi => (setP_sound h _ hx).2.1 i hi⟩
theorem runF_snoc (n : Nat) (l : List OpP) (x : OpP) : runF n (l ++ [x]) = stepP (runF n l) x := by
  unfold runF
  rw [List.foldl_append]
  rfl
theorem fold_sound (l : List OpP) (hl : ∀ x ∈ l, Small x.data) (f : Nat → Nat) (h : Sound f) : Sound (l.foldl stepP f) ∧ ∀ i, 8 ≤ i → i < 12 → l.foldl stepP f i = f i := by
  induction l generalizing f with
  | nil => exact ⟨h, fun _ _ _ => rfl⟩
  | cons x l ih =>
    obtain ⟨a, b⟩ := stepP_sound h x (hl x (List.mem_cons_self ..))
    obtain ⟨c, e⟩ := ih (fun y hy => hl y (List.mem_cons_of_mem _ hy)) _ a
    exact ⟨c, fun i h1 h2 => (e i h1 h2).trans (b i h1 h2)⟩
theorem runF_sound (n : Nat) (l : List OpP) (hl : ∀ x ∈ l, Small x.data) : Sound (runF n l) ∧ ∀ i, 8 ≤ i → i < 12 → runF n l i = newF n i := fold_sound l hl _ (new_sound n).1
theorem ops_small {w : World} {B : Nat} {A : Option Addr} {l : List OpP} (h : OpsAt w B A l) : ∀ x ∈ l, Small x.data := fun x hx => by
  obtain ⟨j, hj, rfl⟩ := List.mem_iff_getElem.1 hx
  obtain ⟨_, _, _, _, _, _, _, _, _, _, _, _, -, -, ⟨_, _, -, -, hb⟩, -⟩ := h j hj
  exact hb.2
def RunPost (n : Nat) (l : List OpP) (w : World) (e : Ending) (w' : World) : Prop := ∃ gp, e = .returned (.pointer (some ⟨gp, 0, none⟩)) ∧ w.heap.size ≤ gp ∧ PgAt w' gp (runF n l) ∧ Below w.heap.size w w'
set_option maxHeartbeats 4000000 in
theorem run_any (n : Nat) (hn : n < 4294967296) (A : Option Addr) (c : Nat) (l : List OpP) (B : Nat) (w : World) (h : OpsAt w B A l) (hB : B ≤ w.heap.size) (hlen : l.length ≤ 120) :
    Calls Try.prog 11 #[.int .u32 n, .slice A l.length c] w (RunPost n l w) := by
  have hsm := ops_small h
  go_enter Try.func11, Try.ntmps11
  go_wp2_with fail
  refine (new_any n hn w).mono ?_
  rintro e w1 ⟨rfl, hp1, b1⟩
  obtain ⟨gp, hgp⟩ : ∃ gp, w.heap.size = gp := ⟨_, rfl⟩
  rw [hgp] at hp1 ⊢
  have hgw : w.heap.size ≤ gp := by omega
  clear hgp
  go_wp2_with fail
  go_loopw [6] (fun i wr => ∃ k : Nat, k ≤ l.length ∧ i = .int .i64 k ∧ PgAt wr gp (runF n (l.take k)) ∧ Below w.heap.size w wr) (fun i _ => l.length - (intOf i).toNat)
  case atStart => exact ⟨0, Nat.zero_le _, rfl, by rw [List.take_zero]; exact hp1, b1⟩
  case round =>
    clear hp1 b1
    obtain ⟨k, hk, rfl, hp, hb⟩ := hrel
    have hwr := hb.size
    rcases Nat.lt_or_ge k l.length with hlt | hge
    · have e1 : decide ((k : Int) < (l.length : Int)) = true := by rw [decide_eq_true_iff]; omega
      have e2 : (0 : Int) ≤ (k : Int) := by omega
      have e3 : (k : Int) < (l.length : Int) := by omega
      obtain ⟨b, o, v0, v1, v2, v3, rfl, hbB, c0, c1, c2, c3, hv⟩ := (h.below (hb.mono hB)) k hlt
      have htk : l.take (k + 1) = l.take k ++ [l[k]] := List.take_succ_eq_append_getElem hlt
      have hS := (runF_sound n (l.take k) fun x hx => hsm x (List.mem_of_mem_take hx)).1
      have hnx := runF_snoc n (l.take k) l[k]
      rw [← htk] at hnx
      generalize l[k] = x at *
      obtain ⟨rfl, rfl, ⟨A3, n3, rfl, -, y3⟩, rfl, hx1, hx2, hx3⟩ := hv
      generalize runF n (l.take k) = f at *
      obtain ⟨m, hm⟩ : ∃ m, x.kind % 8 = m := ⟨_, rfl⟩
      have s1 : (x.kind : Int) % 8 = (m : Int) := by omega
      have s2 : Int.tmod (x.kind : Int) 8 = (m : Int) := by rw [Int.tmod_eq_emod_of_nonneg (by omega)]; exact s1
      have hm8 : m < 8 := by omega
      have HM := Lib.hid (And.intro hm hnx)
      clear hm hnx htk h
      have fin : ∀ w2 g, PgPost gp g wr w2 → stepP f x = g → PgAt w2 gp (runF n (l.take (k + 1))) ∧ Below w.heap.size w w2 := fun w2 g hP he => ⟨by rw [HM.out.2, he]; exact hP.1, hb.trans (hP.2.below hwr fun b e => by omega)⟩
      have FIN := Lib.hid fin
      clear fin
      by_cases h5 : m = 5
      · subst h5
        have cC := clear_any hp hS x.slot
        have he : stepP f x = (clearP f x.slot).2 := if_pos HM.out.1
        have HE := Lib.hid he
        clear he hp hb hS
        go_wp2_with fail
        refine cC.mono ?_
        rintro e w2 ⟨rfl, hP⟩
        have F2 := Lib.hid (FIN.out w2 _ hP HE.out)
        clear cC hP
        go_wp2
        go_roundw
        case rel => exact ⟨k + 1, by omega, by go_num, F2.out⟩
        case measure => simp [intOf]; omega
      · by_cases h7 : m = 7
        · subst h7
          have cC := stmp_any hp x.lsn hx3
          have he : stepP f x = stmp f x.lsn := by
            unfold stepP stmp
            rw [if_neg (by rw [HM.out.1]; omega), if_pos HM.out.1]
          have HE := Lib.hid he
          clear he hp hb hS
          go_wp2_with fail
          refine cC.mono ?_
          rintro e w2 ⟨rfl, hP⟩
          have F2 := Lib.hid (FIN.out w2 _ hP HE.out)
          clear cC hP
          go_wp2
          go_roundw
          case rel => exact ⟨k + 1, by omega, by go_num, F2.out⟩
          case measure => simp [intOf]; omega
        · have u5 : ((m : Int) == 5) = false := by rw [beq_eq_false_iff_ne]; omega
          have u7 : ((m : Int) == 7) = false := by rw [beq_eq_false_iff_ne]; omega
          have hin : BytesIn wr.drew (fun b => b ≠ gp) A3 x.data := by
            refine ⟨fun j hj => ?_, y3.2⟩
            obtain ⟨b, o, e, q1, q2⟩ := y3.1 j hj
            exact ⟨b, o, e, by omega, by show b < wr.heap.size; omega, q2⟩
          have cC := set_any (w := wr.drew) ⟨hp.blk, hp.small⟩ hS x.slot A3 n3 x.data hin
          have he : stepP f x = (setP f x.slot x.data).2 := by
            unfold stepP
            rw [if_neg (by rw [HM.out.1]; exact h5), if_neg (by rw [HM.out.1]; exact h7)]
          have HE := Lib.hid he
          have bd := below_drew0 wr
          clear he hp hb hS h5 h7 hin
          go_wp2_with fail
          go_region_law
            (first
              | (go_simp; go_at_call 14; refine cC.mono ?_; intro e w2 hret; obtain ⟨rfl, hP⟩ := hret; have F2 := Lib.hid (FIN.out w2 _ (PgPost.from bd hP) HE.out); clear hP)
              | fail)
          all_goals
            go_wp2
            go_roundw
            case rel => exact ⟨k + 1, by omega, by go_num, F2.out⟩
            case measure => simp [intOf]; omega
    · obtain rfl : k = l.length := by omega
      have e1 : decide ((l.length : Int) < (l.length : Int)) = false := by rw [decide_eq_false_iff_not]; omega
      rw [List.take_length] at hp
      clear h
      go_wp2
      go_ret
      exact ⟨gp, rfl, hgw, hp, hb⟩
end Go.Proofs.Ytkknfccfgmflmaa
