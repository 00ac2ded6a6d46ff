/- wal's law: run. Conditions: the calls lie there. -/
import Derived.Test.YtkganajbilnanaaWWalSt
import Derived.Test.YtkganajbilnanaaWWalPy
namespace Go.Proofs.Ytkganajbilnanaa
open Go.ChangeShapes Go.WideShapes Go.ChangeAt Go.RowKit
open NumMath
set_option linter.unusedVariables false
set_option linter.unusedSimpArgs false
set_option maxRecDepth 20000

theorem size_op8 : (Try.prog.info? 36).map (·.size) = some 16 := by kernel_rfl
theorem WOpsAt.good {w : World} {B : Nat} {A : Option Addr} {l : List WOp} (h : WOpsAt w B A l) : ∀ x ∈ l, x.r.Fits ∧ x.at_ < 18446744073709551616 := fun x hx => by
  obtain ⟨j, hj, rfl⟩ := List.mem_iff_getElem.1 hx
  obtain ⟨b, o, m, Af, cf, e, h0, hc, hv⟩ := h j hj
  exact ⟨hv.rc.fits, hv.at_⟩
/-- a new log, nothing done -/
def start8 (a : Nat) : LogP × DevP × List RecP := (newL (DevP.new a 0), newD (DevP.new a 0), [])
theorem ok8_play {a : Nat} (h1 : 18 ≤ a) (h2 : a ≤ 1400) {l : List WOp} (hl : ∀ x ∈ l, x.r.Fits ∧ x.at_ < 18446744073709551616) : ∀ i, i ≤ l.length → i ≤ 100 → Ok8 (playP (start8 a) (l.take i)).1 (playP (start8 a) (l.take i)).2.1 (playP (start8 a) (l.take i)).2.2 i
  | 0, _, _ => ok8_new h1 h2
  | i + 1, hi, hi2 => by
    have ih := ok8_play h1 h2 hl i (by omega) (by omega)
    rw [List.take_succ_eq_append_getElem (by omega), playP_snoc]
    obtain ⟨q1, q2⟩ := hl _ (List.getElem_mem (show i < l.length by omega))
    exact ih.step (by omega) _ q1 q2
theorem store_state {w : World} {g : Nat} {cs : Array Value} (k : Blk w g 46 cs) (o : Nat) (ho : o + 3 ≤ cs.size) (a b : Nat) (v : Value) (hv : v.oneCell' = true) :
    (Instr.storeAt 44 (.pointer (some ⟨g, o, none⟩)) (.agg #[.int .u64 (a : Nat), .int .u64 (b : Nat), v])).run Try.prog w = .ok () (w.setCells g o [.int .u64 (a : Nat), .int .u64 (b : Nat), v]) :=
  run_storeAt_mid w g o 44 #[.int .u64 (a : Nat), .int .u64 (b : Nat), v] (fun j hj => ⟨by
      have : j < 3 := hj
      rw [k.cell, Array.getElem?_eq_getElem (by omega)]
      rfl, k.frozen _⟩) size_state (by
      simp [Value.oneCell']
      exact hv)
theorem load_state {w : World} {g : Nat} {pd pl a1 a2 a3 v : Value} {a b : Nat} (kp : Blk w g 46 #[pd, pl, a1, a2, a3, .int .u64 (a : Nat), .int .u64 (b : Nat), v]) :
    (Instr.loadAt 44 (.pointer (some ⟨g, 5, none⟩))).run Try.prog w = .ok (.agg #[.int .u64 (a : Nat), .int .u64 (b : Nat), v]) w :=
  run_load_blk kp 5 44 [.int .u64 (a : Nat), .int .u64 (b : Nat), v] _ (fun j v hj => by
      have : j < 3 := (List.getElem?_eq_some_iff.1 hj).1
      rcases (show j = 0 ∨ j = 1 ∨ j = 2 by omega) with rfl | rfl | rfl <;> exact hj) Try.underlying44 rfl size_state
theorem EntsOwn.one {w : World} {B : Nat} {v : Value} {es : List (Nat × RecP)} (h : EntsOwn w B v es) : v.oneCell' = true := by
  obtain ⟨-, ms, -, q, -⟩ := h
  obtain ⟨A, c, e, -⟩ := own_form q
  rw [e]
  rfl
/-- a state of the game, told by its plain state -/
def PlaysAt (B : Nat) (S : LogP × DevP × List RecP) (w : World) (gpl : Nat) (pd pl : Value) : Prop :=
  ∃ H wb wl wes wv iv, PlayAt B S.1 S.2.1 w H gpl wb wl wes S.1.h.base (S.1.h.base + S.1.lasts) (entsP S.1.h.base S.2.2) pd pl wv iv
def RunPost (a : Nat) (l : List WOp) (w : World) (e : Ending) (w' : World) : Prop :=
  ∃ gpl gl pd, e = .returned (.pointer (some ⟨gpl, 0, none⟩)) ∧ Below w.heap.size w w' ∧ PlaysAt w.heap.size (playP (start8 a) l) w' gpl pd (.pointer (some ⟨gl, 0, none⟩))
theorem max18_run {size : Int} {a : Nat} (hmax : (if size < 18 then 18 else size) = (a : Int)) (t1 t2 ty : TypeId) (w : World) : (Builtin.max_ #[t1, t2] ty #[.int .i64 size, .int .i64 18]).run Try.prog w = .ok (.int .i64 (a : Nat)) w := by
  rw [← hmax]
  unfold Builtin.max_ Builtin.max2
  by_cases h : size < 18
  · simp [h]
  · simp [h]
/-- max(size, 18) -/
theorem wpList_max18 {size : Int} {a : Nat} (hmax : (if size < 18 then 18 else size) = (a : Int)) {w : World} {ops : Array Oper} {rest : List Oper} {o : Oper} {act : Act} {Q : Exit → Act → World → Prop} (hgd : o.guard = none) (x : Operand) (t1 t2 : TypeId)
    (ho : o.op = .call { callee := .builtin .max, args := #[x, .const (.int .i64 18)], argTypes := #[t1, t2] }) (hx : act.eval x = .int .i64 size)
    (hK : wpList Try.prog ops Q rest (act.put o.dst (.int .i64 (a : Nat))) w) : wpList Try.prog ops Q (o :: rest) act w := by
  refine wpList_plain hgd fun K hK' => ?_
  have hrun := max18_run hmax t1 t2 o.type w
  have hx2 : act.eval (.const (.int .i64 18)) = .int .i64 18 := rfl
  unfold Oper.wp execOp
  simp only [ho, resolve, invoke, builtin, Sem.run_bind, Sem.run_pure, Result.andThen_ok, List.map_toArray, List.map_cons, List.map_nil, hx, hx2, hrun]
  exact hK' _ _ hK
set_option maxHeartbeats 8000000 in
theorem run8_any (size : Int) (a : Nat) (hmax : (if size < 18 then 18 else size) = (a : Int)) (h1 : 18 ≤ a) (h2 : a ≤ 1400) (A : Option Addr) (c : Nat) (l : List WOp) (w : World) (h : WOpsAt w w.heap.size A l) (hl : l.length ≤ 40) :
    Calls Try.prog 10 #[.int .i64 size, .slice A l.length c, .int .i64 (-1)] w (RunPost a l w) := by
  have HOK := Lib.hid (ok8_play h1 h2 h.good)
  obtain ⟨n, hn⟩ : ∃ n, l.length = n := ⟨_, rfl⟩
  have HH := Lib.hid h
  have HN := Lib.hid hn
  have hn40 : n ≤ 40 := by omega
  rw [hn]
  clear h hn hl
  have cnew : Calls Try.prog 27 #[.int .i64 (a : Nat), .int .i64 0] w (NewPost (a : Nat) 0 w) := new_any (a : Nat) 0 w
  go_enter Try.func10, Try.ntmps10
  go_wp2_with (first | (refine wpList_max18 hmax rfl (.tmp 11) _ _ rfl rfl ?_) | fail)
  refine cnew.mono ?_
  rintro e w1 ⟨q1, -, hb1⟩
  obtain ⟨pd, rfl, hd1⟩ := q1 ⟨⟨by omega, by omega⟩, by omega, by omega⟩
  rw [Int.toNat_natCast] at hd1
  clear q1 cnew hmax
  obtain ⟨gp, s0, lv0, X0, rfl, -⟩ := id hd1
  have hs1 := hb1.size
  have hz1 : (DevP.new a 0).size 0 = a := by
    show (if 0 < 2 then (List.replicate _ _).length else 0) = a
    rw [if_pos (by omega), List.length_replicate]
    rfl
  have kbx := Blk.new w1 46 #[.pointer (some ⟨gp, 0, none⟩), .pointer none, .int .u64 0, .int .u64 0, .slice none 0 0, .int .u64 0, .int .u64 0, .slice none 0 0]
  have hb2 := below_alloc w1 (.cells #[.pointer (some ⟨gp, 0, none⟩), .pointer none, .int .u64 0, .int .u64 0, .slice none 0 0, .int .u64 0, .int .u64 0, .slice none 0 0] 46)
  have hd2 := hd1.below hb2
  have hsz2 : (w1.alloc (.cells #[.pointer (some ⟨gp, 0, none⟩), .pointer none, .int .u64 0, .int .u64 0, .slice none 0 0, .int .u64 0, .int .u64 0, .slice none 0 0] 46)).heap.size = w1.heap.size + 1 := World.size_alloc _ _
  clear hd1
  go_upto_region 2 with fail
  generalize World.alloc w1 _ = w2 at *
  obtain ⟨gpl, hgpl⟩ : ∃ g, w1.heap.size = g := ⟨_, rfl⟩
  rw [hgpl] at kbx hsz2
  rw [hgpl]
  have c0 : w2.cell? ⟨gpl, 0, none⟩ = some (.pointer (some ⟨gp, 0, none⟩)) := kbx.cell 0
  have cnl := newl_any (D := DevP.new a 0) hd2 (fun b q => by have := q.2; omega) (DevP.good_new (by omega) (by omega)) (by omega)
  have hB2 : Below w.heap.size w w2 := hb1.trans (hb2.mono hs1)
  have HB2 := Lib.hid hB2
  have KBX := Lib.hid kbx
  have HSZ := Lib.hid hsz2
  have HG := Lib.hid hgpl
  have HS1 := Lib.hid hs1
  have HZ1 := Lib.hid hz1
  clear hb1 hb2 hB2 kbx hsz2 hgpl hs1 hz1 hd2
  go_wp2_with fail
  refine cnl.mono ?_
  rintro e w3 (⟨hlt, -⟩ | ⟨-, gl, rfl, F2, G2, sv2, st2, hL2, hF2, hG2, hO2⟩)
  · exact absurd hlt (by rw [HZ1.out]; omega)
  have hF3 : ∀ b, F2 b → (w.heap.size ≤ b ∧ b < gpl) ∨ (gpl + 1 ≤ b ∧ b < w3.heap.size) := fun b q => (hF2 b q).imp (fun z => by have := HG.out; omega) (fun z => by have := HSZ.out; omega)
  have hG3 : ∀ b, G2 b → gpl + 1 ≤ b ∧ b < w3.heap.size := fun b q => (hG2 b q).elim (fun z => z.elim) (fun z => by have := HSZ.out; omega)
  have k3 := KBX.out.only hO2 (fun q => by
    have := HG.out
    rcases q with q | q
    · omega
    · exact q)
  have hB3 : Below w.heap.size w w3 := HB2.out.trans (hO2.below HB2.out.size fun b q => (q.elim (fun z => z.1) fun z => z.elim))
  have c0 : w3.cell? ⟨gpl, 0, none⟩ = some (.pointer (some ⟨gp, 0, none⟩)) := k3.cell 0
  have c1 : w3.cell? ⟨gpl, 1, none⟩ = some (.pointer none) := k3.cell 1
  have f1 := k3.frozen 1
  have K3 := Lib.hid k3
  have HL2 := Lib.hid hL2
  have HF3 := Lib.hid hF3
  have HG3 := Lib.hid hG3
  have HB3 := Lib.hid hB3
  clear cnl hL2 hF2 hG2 hO2 k3 hF3 hG3 hB3 KBX HB2 HZ1
  go_upto_region 8 with fail
  have k4 := K3.out.set_ 1 (.pointer (some ⟨gl, 0, none⟩))
  have oW4 : Only (fun b => b = gpl) w3 (w3.setCell ⟨gpl, 1, none⟩ (.pointer (some ⟨gl, 0, none⟩))) := (Only.refl (fun b => b = gpl) w3).setCell (p := ⟨gpl, 1, none⟩) (.inl rfl) _
  clear c0 c1 f1 K3
  generalize World.setCell w3 _ _ = w4 at *
  have hL4 : Lg (newL (DevP.new a 0)) (newD (DevP.new a 0)) w4 F2 G2 gl (.pointer (some ⟨gp, 0, none⟩)) sv2 st2 :=
    ⟨HL2.out.dev.only oW4 (fun b q e => by have := HF3.out b q; omega), HL2.out.log.only oW4 (fun b q e => by have := HG3.out b q; omega), HL2.out.dis, fun b q => Nat.lt_of_lt_of_le (HL2.out.hiF b q) oW4.size, fun b q => Nat.lt_of_lt_of_le (HL2.out.hiG b q) oW4.size⟩
  have hok0 : Ok8 (newL (DevP.new a 0)) (newD (DevP.new a 0)) [] 0 := ok8_new h1 h2
  have hST : Hid (start8 a = (newL (DevP.new a 0), newD (DevP.new a 0), [])) := Lib.hid rfl
  have hfit := hok0.fit
  have hba := hfit.base
  have hla := hfit.lasts
  generalize newL (DevP.new a 0) = L0 at *
  generalize newD (DevP.new a 0) = D0 at *
  have cba := base_any hL4.log.blk
  have cla := lasts_any hL4.log.blk (by omega)
  obtain ⟨bs, hbs⟩ : ∃ bs, L0.h.base = bs := ⟨_, rfl⟩
  obtain ⟨bl, hbl⟩ : ∃ bl, bs + L0.lasts = bl := ⟨_, rfl⟩
  rw [hbs] at cba cla
  rw [hbl] at cla
  have HBS := Lib.hid hbs
  have HBL := Lib.hid hbl
  have HL4 := Lib.hid hL4
  have K4 : Hid (Blk w4 gpl 46 #[.pointer (some ⟨gp, 0, none⟩), .pointer (some ⟨gl, 0, none⟩), .int .u64 0, .int .u64 0, .slice none 0 0, .int .u64 0, .int .u64 0, .slice none 0 0]) := Lib.hid k4
  have HO4 := Lib.hid oW4
  clear hbs hbl hL4 k4 oW4 hba hla hfit hok0 HL2
  go_wp2_with fail
  refine cba.mono ?_
  rintro e wz ⟨rfl, rfl⟩
  clear cba
  go_wp2_with fail
  refine cla.mono ?_
  rintro e w5 ⟨rfl, hd5⟩
  have hB5 := hd5.below w4.heap.size
  have k5 := K4.out.below hB5 K4.out.lt
  have st5 := store_state k5 5 (show 5 + 3 ≤ 8 by omega) bs bl (.slice none 0 0) rfl
  have k6 : Blk (w5.setCells gpl 5 [.int .u64 (bs : Nat), .int .u64 (bl : Nat), .slice none 0 0]) gpl 46 #[.pointer (some ⟨gp, 0, none⟩), .pointer (some ⟨gl, 0, none⟩), .int .u64 0, .int .u64 0, .slice none 0 0, .int .u64 (bs : Nat), .int .u64 (bl : Nat), .slice none 0 0] := ((k5.set_ 5 _).set_ 6 _).set_ 7 _
  have o6 := setCells_only w5 gpl [.int .u64 (bs : Nat), .int .u64 (bl : Nat), .slice none 0 0] 5
  have HL5 := Lib.hid (HL4.out.below hB5)
  clear cla k5
  go_upto_region 9 with (first
    | (refine wpList_store_run rfl 44 (.tmp 46) (.tmp 44) _ _ rfl rfl rfl st5 ?_; clear st5)
    | fail)
  generalize World.setCells w5 gpl 5 _ = w6 at *
  have ld6 := load_state k6
  have st6 := store_state k6 2 (show 2 + 3 ≤ 8 by omega) bs bl (.slice none 0 0) rfl
  have k7 : Blk (w6.setCells gpl 2 [.int .u64 (bs : Nat), .int .u64 (bl : Nat), .slice none 0 0]) gpl 46 #[.pointer (some ⟨gp, 0, none⟩), .pointer (some ⟨gl, 0, none⟩), .int .u64 (bs : Nat), .int .u64 (bl : Nat), .slice none 0 0, .int .u64 (bs : Nat), .int .u64 (bl : Nat), .slice none 0 0] := ((k6.set_ 2 _).set_ 3 _).set_ 4 _
  have o7 := setCells_only w6 gpl [.int .u64 (bs : Nat), .int .u64 (bl : Nat), .slice none 0 0] 2
  clear k6
  go_upto_region 10 with (first
    | (refine wpList_load_run rfl 44 (.tmp 50) _ _ rfl rfl ld6 ?_; clear ld6)
    | (refine wpList_store_run rfl 44 (.tmp 53) (.tmp 51) _ _ rfl rfl rfl st6 ?_; clear st6)
    | fail)
  generalize World.setCells w6 gpl 2 _ = w7 at *
  have oz6 : Only (fun b => b = gpl) w5 w7 := o6.trans o7 fun b q => .inl q
  have hp7 : PlayAt w.heap.size L0 D0 w7 (fun b => F2 b ∨ G2 b) gpl bs bl [] bs bl [] (.pointer (some ⟨gp, 0, none⟩)) (.pointer (some ⟨gl, 0, none⟩)) (.slice none 0 0) (.slice none 0 0) := by
    have hn : ∀ b, F2 b ∨ G2 b → ¬ b = gpl := fun b q e => by
      rcases q with q | q
      · have := HF3.out b q; omega
      · have := HG3.out b q; omega
    have hs3 := HB3.out.size
    have hs4 := HO4.out.size
    have hs5 := hB5.size
    have hs7 := oz6.size
    have hi7 : IsLog L0 D0 w5 (fun b => F2 b ∨ G2 b) (.pointer (some ⟨gl, 0, none⟩)) (.pointer (some ⟨gp, 0, none⟩)) := ⟨F2, G2, gl, sv2, st2, rfl, HL5.out, fun b q => q⟩
    have hg1 := HG.out
    have hg2 := HS1.out
    refine ⟨k7, hi7.only oz6 (fun b q e => hn b q e), EntsOwn.nil _ _, EntsOwn.nil _ _, fun q => hn gpl q rfl, fun b e => (by cases e), fun b e => (by cases e), fun b q => ?_, fun b q => ?_, by omega, by omega⟩
    · rcases q with q | q
      · have := HF3.out b q; have := HSZ.out; have := k7.lt; omega
      · have := HG3.out b q; omega
    · rcases q with q | q
      · have := HF3.out b q; omega
      · have := HG3.out b q; omega
  have hb7 : Below w.heap.size w w7 := by
    have hs3 := HB3.out.size
    have hg1 := HG.out
    have hg2 := HS1.out
    have x4 := HB3.out.trans (HO4.out.below hs3 fun b e => by rw [e]; omega)
    have x5 := x4.trans (hB5.mono x4.size)
    exact x5.trans (oz6.below x5.size fun b e => by rw [e]; omega)
  have HP7 : Hid (PlaysAt w.heap.size (playP (start8 a) []) w7 gpl (.pointer (some ⟨gp, 0, none⟩)) (.pointer (some ⟨gl, 0, none⟩))) := Lib.hid (by
    show PlaysAt w.heap.size (start8 a) w7 gpl _ _
    rw [hST.out]
    refine ⟨fun b => F2 b ∨ G2 b, bs, bl, [], .slice none 0 0, .slice none 0 0, ?_⟩
    show PlayAt w.heap.size L0 D0 w7 (fun b => F2 b ∨ G2 b) gpl bs bl [] L0.h.base (L0.h.base + L0.lasts) [] _ _ _ _
    rw [HBS.out, HBL.out]
    exact hp7)
  have HB7 := Lib.hid hb7
  clear hp7 hb7 oz6 o6 o7 k7 hd5 hB5 HL5 HL4 HBS HBL HO4 HB3 HG3 HF3 HS1 HG HSZ K4
  clear hST
  obtain ⟨S0, hS0⟩ : ∃ s, start8 a = s := ⟨_, rfl⟩
  rw [hS0] at HOK HP7
  have HS0 := Lib.hid hS0
  clear hS0
  go_wp2_with fail
  go_loopw [10] (fun iv wr => ∃ (i : Nat), i ≤ n ∧ iv = .int .i64 (i : Nat) ∧ PlaysAt w.heap.size (playP S0 (l.take i)) wr gpl (.pointer (some ⟨gp, 0, none⟩)) (.pointer (some ⟨gl, 0, none⟩)) ∧ Below w.heap.size w wr) (fun iv _ => n - (intOf iv).toNat)
  case atStart => exact ⟨0, Nat.zero_le _, rfl, HP7.out, HB7.out⟩
  case round =>
    obtain ⟨i, hi, rfl, hp, hb⟩ := hrel
    clear HP7 HB7
    rcases Nat.lt_or_ge i n with hlt | hge
    · have e1 : decide ((i : Int) < (n : Int)) = true := by rw [decide_eq_true_iff]; omega
      have e2 : (0 : Int) ≤ (i : Int) := by omega
      have e3 : (i : Int) < (n : Int) := by omega
      have hil : i < l.length := by rw [HN.out]; exact hlt
      obtain ⟨b, o, m, Af, cf, rfl, hbB, hcel, hv⟩ := (HH.out.below hb) i hil
      have hok1 := HOK.out i (by omega) (by omega)
      have hok2 := HOK.out (i + 1) (by omega) (by omega)
      have hst : playP S0 (l.take (i + 1)) = stepP (playP S0 (l.take i)).1 (playP S0 (l.take i)).2.1 (playP S0 (l.take i)).2.2 l[i] := by
        rw [List.take_succ_eq_append_getElem hil, playP_snoc]
      rw [hst] at hok2
      have HST := Lib.hid hst
      clear hst
      generalize l[i] = x at *
      generalize hS : playP S0 (l.take i) = S at *
      obtain ⟨L, D, rs⟩ := S
      obtain ⟨H, wb, wl, wes, wv, iv, hp⟩ := hp
      have cst := step_any hp hok1.fit hok1.good (by omega) x m Af cf hv hok2.fit
      have ldO : (Instr.loadAt 36 (.pointer (some ⟨b, o + i * 16, none⟩))).run Try.prog wr = .ok (.agg (wopA x m Af cf).toArray) wr :=
        run_load_cells 36 (wopA x m Af cf) _ hcel Try.underlying36 rfl size_op8
      have HPS := Lib.hid hp.size
      have HB := Lib.hid hb
      have HOK2 := Lib.hid hok2
      clear hok1 hok2 hv hcel hb hp hS hil HOK
      go_wp2_with (first | (refine wpList_load_run rfl 36 (.tmp 71) _ _ rfl rfl ldO ?_; clear ldO) | fail)
      refine cst.mono ?_
      rintro e w8 ⟨rfl, hb8, H', wv', iv', hp8⟩
      clear cst
      have cd : w8.cell? ⟨gpl, 0, none⟩ = some (.pointer (some ⟨gp, 0, none⟩)) := hp8.blk.cell 0
      have chd : Calls Try.prog 30 #[.pointer (some ⟨gp, 0, none⟩)] w8 fun e w' => e = .returned (.bool false) ∧ w8 = w' := by
        obtain ⟨F, G, gl', sv, st, -, hLg, -⟩ := hp8.log
        have := haltedd_any hLg.dev
        rw [HOK2.out.run] at this
        exact this
      have HR : Hid (PlaysAt w.heap.size (playP S0 (l.take (i + 1))) w8 gpl (.pointer (some ⟨gp, 0, none⟩)) (.pointer (some ⟨gl, 0, none⟩)) ∧ Below w.heap.size w w8) := Lib.hid ⟨by
        rw [HST.out]
        exact ⟨H', _, _, _, wv', iv', hp8⟩, HB.out.trans hb8⟩
      clear hp8 hb8 HST HOK2 HPS HB
      go_wp2_with fail
      refine chd.mono ?_
      rintro e wz ⟨rfl, rfl⟩
      clear chd cd
      go_wp2
      go_roundw
      case rel => exact ⟨i + 1, by omega, by go_num, HR.out⟩
      case measure => simp [intOf]; omega
    · obtain rfl : i = n := by omega
      have e1 : decide ((i : Int) < (i : Int)) = false := by rw [decide_eq_false_iff_not]; omega
      have htk : l.take i = l := List.take_of_length_le (by rw [HN.out]; exact Nat.le_refl _)
      rw [htk] at hp
      obtain ⟨H, wb, wl, wes, wv, iv, hp⟩ := hp
      have ld := load_state hp.blk
      have st := store_state hp.blk 2 (show 2 + 3 ≤ 8 by omega) (playP S0 l).1.h.base ((playP S0 l).1.h.base + (playP S0 l).1.lasts) iv hp.is.one
      have k2 := ((hp.blk.set_ 2 (.int .u64 ((playP S0 l).1.h.base : Nat))).set_ 3 (.int .u64 (((playP S0 l).1.h.base + (playP S0 l).1.lasts : Nat) : Int))).set_ 4 iv
      have oW := setCells_only wr gpl [.int .u64 ((playP S0 l).1.h.base : Nat), .int .u64 (((playP S0 l).1.h.base + (playP S0 l).1.lasts : Nat) : Int), iv] 2
      have HP := Lib.hid (hp.box oW k2 hp.is hp.is hp.nI hp.nI)
      have HB := Lib.hid (hb.trans (oW.below hp.size fun b e => by rw [e]; exact hp.gB))
      have FIN : Hid (∀ w', w' = wr.setCells gpl 2 [.int .u64 ((playP S0 l).1.h.base : Nat), .int .u64 (((playP S0 l).1.h.base + (playP S0 l).1.lasts : Nat) : Int), iv] → Below w.heap.size w w' ∧ PlaysAt w.heap.size (playP S0 l) w' gpl (.pointer (some ⟨gp, 0, none⟩)) (.pointer (some ⟨gl, 0, none⟩))) := Lib.hid fun w' e => by
        rw [e]
        exact ⟨HB.out, _, _, _, _, _, _, HP.out⟩
      clear hp hb k2 oW HP HB htk HOK
      generalize World.setCells wr gpl 2 _ = wf at *
      have hfin := FIN.out wf rfl
      have HF := Lib.hid hfin
      clear FIN hfin
      generalize (playP S0 l).1.h.base + (playP S0 l).1.lasts = bl' at ld st
      generalize (playP S0 l).1.h.base = bs' at ld st
      go_wp2_with (first
        | (refine wpList_load_run rfl 44 (.tmp 83) _ _ rfl rfl ld ?_; clear ld)
        | (refine wpList_store_run rfl 44 (.tmp 86) (.tmp 84) _ _ rfl rfl rfl st ?_; clear st)
        | fail)
      go_ret
      exact ⟨gpl, gl, .pointer (some ⟨gp, 0, none⟩), rfl, by rw [HS0.out]; exact HF.out⟩
end Go.Proofs.Ytkganajbilnanaa
