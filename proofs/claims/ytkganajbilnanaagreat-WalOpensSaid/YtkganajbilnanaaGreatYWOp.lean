/- wal's law: calls that come in as slices; heavy. Conditions: they lie there. -/
import Derived.Test.YtkganajbilnanaaGreatYWI
import Derived.Test.YtkganajbilnanaaGreatYRecO
set_option linter.unusedVariables false
set_option linter.unusedSimpArgs false
namespace Go.Proofs.YtkganajbilnanaaGreat
open Go.ChangeShapes Go.WideShapes Go.ChangeAt Go.RowKit Go.Deep Go.Joins
open NumMath
set_option maxRecDepth 20000
structure WOp where
  kind : Nat
  r : RecP
  spare : Nat
  at_ : Nat
  fates : List FateP
instance : Inhabited WOp := ⟨⟨0, recZ, 0, 0, []⟩⟩
def wopA (x : WOp) (m : RecMm) (Af : Option Addr) (cf : Nat) : List Value := .int .u8 (x.kind : Nat) :: ((recA x.r m).toList ++ [.int .u64 (x.spare : Nat), .int .u64 (x.at_ : Nat), .slice Af x.fates.length cf])
structure WOpV (w : World) (B : Nat) (x : WOp) (m : RecMm) (Af : Option Addr) (cf : Nat) : Prop where
  rc : RecAt w B x.r m
  fa : FatesAt w B Af x.fates
  kind : x.kind < 256
  spare : x.spare < 18446744073709551616
  at_ : x.at_ < 18446744073709551616
theorem FatesAt.below8 {w w' : World} {B : Nat} {A : Option Addr} {l : List FateP} (h : FatesAt w B A l) (hb : Below B w w') : FatesAt w' B A l := ⟨h.1.below hb, h.2⟩
theorem WOpV.below {w w' : World} {B : Nat} {x : WOp} {m : RecMm} {Af : Option Addr} {cf : Nat} (h : WOpV w B x m Af cf) (hb : Below B w w') : WOpV w' B x m Af cf := ⟨h.rc.below hb, h.fa.below8 hb, h.kind, h.spare, h.at_⟩
def WOpsAt (w : World) (B : Nat) (A : Option Addr) (l : List WOp) : Prop :=
  ∀ j (h : j < l.length), ∃ b o m Af cf, A = some ⟨b, o, none⟩ ∧ b < B ∧ (∀ i v, (wopA l[j] m Af cf)[i]? = some v → w.cell? ⟨b, o + j * 16 + i, none⟩ = some v) ∧ WOpV w B l[j] m Af cf
theorem WOpsAt.below {w w' : World} {B : Nat} {A : Option Addr} {l : List WOp} (h : WOpsAt w B A l) (hb : Below B w w') : WOpsAt w' B A l := fun j hj => by
  obtain ⟨b, o, m, Af, cf, e, h0, hc, hv⟩ := h j hj
  exact ⟨b, o, m, Af, cf, e, h0, fun i v q => (hb.cell (p := ⟨b, _, none⟩) h0).trans (hc i v q), hv.below hb⟩
def bigO (x : WOp) : Bool := decide (60 < x.fates.length) || (decide (70 < x.r.txns.length) || (decide (70 < x.r.pages.length) || (decide (100 < x.r.chg.before.length) || decide (100 < x.r.chg.after.length))))
def heavy8 (size : Int) (l : List WOp) : Bool := decide (120 < size) || (decide (40 < l.length) || l.any bigO)
set_option maxHeartbeats 8000000 in
theorem heavy8_any (size : Int) (A : Option Addr) (c : Nat) (l : List WOp) (B : Nat) (w : World) (h : WOpsAt w B A l) (hB : B ≤ w.heap.size) :
    Calls Tryz.prog 4 #[.int .i64 size, .slice A l.length c] w fun e w' => e = .returned (.bool (heavy8 size l)) ∧ Below w.heap.size w w' := by
  obtain ⟨n, hn⟩ : ∃ n, l.length = n := ⟨_, rfl⟩
  have HH := Lib.hid h
  have HN := Lib.hid hn
  rw [hn]
  have HV : Hid (heavy8 size l = (decide (120 < size) || (decide (40 < n) || l.any bigO))) := Lib.hid (by unfold heavy8; rw [hn])
  clear h hn
  by_cases h1 : 120 < size
  · have t1 : decide ((120 : Int) < size) = true := decide_eq_true h1
    go_enter Tryz.func4, Tryz.ntmps4
    go_wp2
    go_ret
    exact ⟨by rw [HV.out, decide_eq_true h1]; rfl, Below.refl _ _⟩
  have t1 : decide ((120 : Int) < size) = false := decide_eq_false h1
  by_cases h2 : 40 < n
  · have t2 : decide ((40 : Int) < (n : Int)) = true := by rw [decide_eq_true_iff]; omega
    go_enter Tryz.func4, Tryz.ntmps4
    go_wp2
    go_ret
    exact ⟨by rw [HV.out, decide_eq_true h2, Bool.true_or, Bool.or_true]; rfl, Below.refl _ _⟩
  have t2 : decide ((40 : Int) < (n : Int)) = false := by rw [decide_eq_false_iff_not]; omega
  have HV2 : Hid (heavy8 size l = l.any bigO) := Lib.hid (by rw [HV.out, decide_eq_false h1, decide_eq_false h2, Bool.false_or, Bool.false_or])
  clear HV
  go_enter Tryz.func4, Tryz.ntmps4
  go_wp2_with fail
  go_loopw [5] (fun iv wr => ∃ (i : Nat), i ≤ n ∧ iv = .int .i64 (i : Nat) ∧ (l.take i).any bigO = false ∧ Below w.heap.size w wr) (fun iv _ => n - (intOf iv).toNat)
  case atStart => exact ⟨0, Nat.zero_le _, rfl, rfl, Below.refl _ _⟩
  case round =>
    obtain ⟨i, hi, rfl, hany, hb⟩ := hrel
    rcases Nat.lt_or_ge i n with hlt | hge
    · have e1 : decide ((i : Int) < (n : Int)) = true := by rw [decide_eq_true_iff]; omega
      have e2 : (0 : Int) ≤ (i : Int) := by omega
      have e3 : (i : Int) < (n : Int) := by omega
      have hil : i < l.length := by rw [HN.out]; exact hlt
      obtain ⟨b, o, m, Af, cf, rfl, hbB, hcel, hv⟩ := (HH.out.below (hb.mono hB)) i hil
      have hg : l[i]? = some l[i] := List.getElem?_eq_getElem hil
      have hst : (l.take (i + 1)).any bigO = bigO l[i] := by
        rw [List.take_succ_eq_append_getElem hil, List.any_append, hany]
        simp
      have hmem : bigO l[i] = true → l.any bigO = true := fun q => List.any_eq_true.2 ⟨_, List.getElem_mem hil, q⟩
      generalize l[i] = x at *
      obtain ⟨xk, xr, xs, xa, xf⟩ := x
      have ld : (Instr.loadAt 51 (.pointer (some ⟨b, o + i * 16 + 1, none⟩))).run Tryz.prog wr = .ok (.agg (recA xr m)) wr :=
        run_load_cells 51 (recA xr m).toList _ (fun j v hj => by
          have := hcel (1 + j) v (by
            show (Value.int .u8 (xk : Nat) :: ((recA xr m).toList ++ _))[1 + j]? = some v
            rw [Nat.add_comm, List.getElem?_cons_succ, List.getElem?_append_left (by have := (List.getElem?_eq_some_iff.1 hj).1; omega)]
            exact hj)
          rw [show o + i * 16 + 1 + j = o + i * 16 + (1 + j) by omega]
          exact this) Tryz.underlying51 rfl size_rec
      have cf15 : wr.cell? ⟨b, o + i * 16 + 15, none⟩ = some (.slice Af xf.length cf) := hcel 15 _ rfl
      have hst2 := store_rec_new wr xr m
      have kx := Blk.new wr 51 (recA xr m)
      have hbx : Below w.heap.size w (wr.alloc (.cells (recA xr m) 51)) := hb.alloc hb.size _
      have cfx : (wr.alloc (.cells (recA xr m) 51)).cell? ⟨b, o + i * 16 + 15, none⟩ = some (.slice Af xf.length cf) := (((Below.refl wr.heap.size wr).alloc (Nat.le_refl _) _).cell (p := ⟨b, _, none⟩) (by have := hb.size; show b < _; omega)).trans cf15
      have c8 : (wr.alloc (.cells (recA xr m) 51)).cell? ⟨wr.heap.size, 8, none⟩ = some (.slice m.cm.A1 xr.chg.before.length m.cm.c1) := kx.cell 8
      have c9 : (wr.alloc (.cells (recA xr m) 51)).cell? ⟨wr.heap.size, 9, none⟩ = some (.slice m.cm.A2 xr.chg.after.length m.cm.c2) := kx.cell 9
      have c10 : (wr.alloc (.cells (recA xr m) 51)).cell? ⟨wr.heap.size, 10, none⟩ = some (.slice m.A3 xr.txns.length m.c3) := kx.cell 10
      have c11 : (wr.alloc (.cells (recA xr m) 51)).cell? ⟨wr.heap.size, 11, none⟩ = some (.slice m.A4 xr.pages.length m.c4) := kx.cell 11
      have HBX := Lib.hid hbx
      have HBIG : Hid (bigO ⟨xk, xr, xs, xa, xf⟩ = (decide (60 < xf.length) || (decide (70 < xr.txns.length) || (decide (70 < xr.pages.length) || (decide (100 < xr.chg.before.length) || decide (100 < xr.chg.after.length)))))) := Lib.hid rfl
      have HST := Lib.hid hst
      have HMEM := Lib.hid hmem
      clear hst hmem hv hcel hg kx hbx hany hil cf15
      go_upto_region 7 with (first | (refine wpList_load_run rfl 51 (.tmp 23) _ _ rfl rfl ld ?_; clear ld) | (refine wpList_store_run rfl 51 (.tmp 6) (.tmp 24) _ _ rfl rfl rfl hst2 ?_; clear hst2) | fail)
      generalize World.alloc wr _ = w2 at *
      obtain ⟨nf, hnf⟩ : ∃ q, xf.length = q := ⟨_, rfl⟩
      obtain ⟨nt, hnt⟩ : ∃ q, xr.txns.length = q := ⟨_, rfl⟩
      obtain ⟨np, hnp⟩ : ∃ q, xr.pages.length = q := ⟨_, rfl⟩
      obtain ⟨nb, hnb⟩ : ∃ q, xr.chg.before.length = q := ⟨_, rfl⟩
      obtain ⟨na, hna⟩ : ∃ q, xr.chg.after.length = q := ⟨_, rfl⟩
      rw [hnf, hnt, hnp, hnb, hna] at HBIG
      rw [hnf] at cfx
      rw [hnb] at c8
      rw [hna] at c9
      rw [hnt] at c10
      rw [hnp] at c11
      clear hnf hnt hnp hnb hna
      by_cases g1 : 60 < nf
      · have u1 : decide ((60 : Int) < (nf : Int)) = true := by rw [decide_eq_true_iff]; omega
        have HT : Hid (heavy8 size l = true) := Lib.hid (by rw [HV2.out]; exact HMEM.out (by rw [HBIG.out]; simp [g1]))
        clear HBIG HST HMEM
        go_wp2
        go_ret
        exact ⟨by rw [HT.out]; rfl, HBX.out⟩
      have u1 : decide ((60 : Int) < (nf : Int)) = false := by rw [decide_eq_false_iff_not]; omega
      by_cases g2 : 70 < nt
      · have u2 : decide ((70 : Int) < (nt : Int)) = true := by rw [decide_eq_true_iff]; omega
        have HT : Hid (heavy8 size l = true) := Lib.hid (by rw [HV2.out]; exact HMEM.out (by rw [HBIG.out]; simp [g2]))
        clear HBIG HST HMEM
        go_wp2
        go_ret
        exact ⟨by rw [HT.out]; rfl, HBX.out⟩
      have u2 : decide ((70 : Int) < (nt : Int)) = false := by rw [decide_eq_false_iff_not]; omega
      by_cases g3 : 70 < np
      · have u3 : decide ((70 : Int) < (np : Int)) = true := by rw [decide_eq_true_iff]; omega
        have HT : Hid (heavy8 size l = true) := Lib.hid (by rw [HV2.out]; exact HMEM.out (by rw [HBIG.out]; simp [g3]))
        clear HBIG HST HMEM
        go_wp2
        go_ret
        exact ⟨by rw [HT.out]; rfl, HBX.out⟩
      have u3 : decide ((70 : Int) < (np : Int)) = false := by rw [decide_eq_false_iff_not]; omega
      by_cases g4 : 100 < nb
      · have u4 : decide ((100 : Int) < (nb : Int)) = true := by rw [decide_eq_true_iff]; omega
        have HT : Hid (heavy8 size l = true) := Lib.hid (by rw [HV2.out]; exact HMEM.out (by rw [HBIG.out]; simp [g4]))
        clear HBIG HST HMEM
        go_wp2
        go_ret
        exact ⟨by rw [HT.out]; rfl, HBX.out⟩
      have u4 : decide ((100 : Int) < (nb : Int)) = false := by rw [decide_eq_false_iff_not]; omega
      by_cases g5 : 100 < na
      · have u5 : decide ((100 : Int) < (na : Int)) = true := by rw [decide_eq_true_iff]; omega
        have HT : Hid (heavy8 size l = true) := Lib.hid (by rw [HV2.out]; exact HMEM.out (by rw [HBIG.out]; simp [g5]))
        clear HBIG HST HMEM
        go_wp2
        go_ret
        exact ⟨by rw [HT.out]; rfl, HBX.out⟩
      have u5 : decide ((100 : Int) < (na : Int)) = false := by rw [decide_eq_false_iff_not]; omega
      have hbf : (l.take (i + 1)).any bigO = false := by rw [HST.out, HBIG.out, decide_eq_false g1, decide_eq_false g2, decide_eq_false g3, decide_eq_false g4, decide_eq_false g5]; rfl
      have HBF := Lib.hid hbf
      clear HBIG HST HMEM hbf
      go_wp2
      go_roundw
      case rel => exact ⟨i + 1, by omega, by go_num, HBF.out, HBX.out⟩
      case measure => simp [intOf]; omega
    · obtain rfl : i = n := by omega
      have e1 : decide ((i : Int) < (i : Int)) = false := by rw [decide_eq_false_iff_not]; omega
      have HF : Hid (heavy8 size l = false) := Lib.hid (by rw [HV2.out, ← hany, List.take_of_length_le (by rw [HN.out]; exact Nat.le_refl _)])
      clear hany
      go_wp2
      go_ret
      exact ⟨by rw [HF.out]; rfl, hb⟩
end Go.Proofs.YtkganajbilnanaaGreat
