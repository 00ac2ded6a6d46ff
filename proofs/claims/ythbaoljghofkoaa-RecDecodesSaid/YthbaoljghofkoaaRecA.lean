/- rec: read: the walk. Conditions: the bytes lie there. -/
import Derived.Test.YthbaoljghofkoaaRecI
import Derived.Tactics2
namespace Go.Proofs.Ythbaoljghofkoaa
open Go.ChangeShapes Go.WideShapes Go.ChangeAt Go.RowKit
open NumMath
set_option linter.unusedVariables false
set_option linter.unusedSimpArgs false
set_option maxRecDepth 20000

theorem read_sum {w : World} {B p : Nat} {l : List Nat} (h : RdE B p w l w) (hl : l.length ≤ 100000) : ∃ A c, w.cell? ⟨p, 0, none⟩ = some (.slice A l.length c) ∧
    Calls Try.prog 27 #[.slice (some ⟨w.heap.size, 0, none⟩) 1 1] (w.alloc (.cells #[.slice A l.length c] 25)) fun e w' => e = .returned (.int .u32 (sumB l : Nat)) ∧ w.alloc (.cells #[.slice A l.length c] 25) = w' := by
  obtain ⟨A, c, z⟩ := h
  refine ⟨A, c, z.blk.cell 0, ?_⟩
  have hB : B ≤ w.heap.size := Nat.le_trans z.bp (Nat.le_of_lt z.plt)
  have ha : At (w.alloc (.cells #[.slice A l.length c] 25)) (w.heap.size + 1) (some ⟨w.heap.size, 0, none⟩) [.slice A l.length c] := At.new w _ _ (0, 0)
  have hbb : Bytes (w.alloc (.cells #[.slice A l.length c] 25)) (w.heap.size + 1) A l := (z.by_.alloc hB _).more (by omega)
  have := sum_any (some ⟨w.heap.size, 0, none⟩) 1 [(A, c, l)] (w.heap.size + 1) _ ha (fun x hx => by
    rw [List.mem_singleton] at hx
    subst hx
    exact ⟨hbb, hl⟩) (by simp)
  have he : CrcMath.sumFrom 0 (allOf [(A, c, l)]) = sumB l := by
    unfold sumB allOf
    simp
  rw [he] at this
  exact this
set_option maxHeartbeats 16000000 in
theorem read_any {A : Option Addr} {c : Nat} {l : List Nat} {w : World} (h : Bytes w w.heap.size A l) (hc : l.length ≤ c) (hl : l.length ≤ 100000) :
    Calls Try.prog 34 #[.slice A l.length c] w (ReadPost l w) := by
  have hmf : ∀ (fn : Fn) (first cap : Array Value) (w : World), (Instr.makeFunc fn first cap).run Try.prog w = .ok (.func fn first cap) w := fun _ _ _ _ => rfl
  have R0 : RS w.heap.size (w.heap.size + 1) (w.heap.size + 1 + 1) w (recA recZ memZ) l (((w.alloc (.cells #[.int .u8 0, .int .u32 0, .int .u64 0, .int .u64 0, .int .u32 0, .int .u16 0, .bool false, .bool false, .slice none 0 0, .slice none 0 0, .slice none 0 0, .slice none 0 0] 31)).alloc (.cells #[.bool false] 4)).alloc (.cells #[.slice A l.length c] 79)) := by
    have k1 := Blk.new w 31 (recA recZ memZ)
    have k2 := Blk.new (w.alloc (.cells (recA recZ memZ) 31)) 4 #[.bool false]
    have k3 := Blk.new ((w.alloc (.cells (recA recZ memZ) 31)).alloc (.cells #[.bool false] 4)) 79 #[.slice A l.length c]
    have b1 := below_alloc w (.cells (recA recZ memZ) 31)
    have b2 := b1.alloc b1.size (.cells #[.bool false] 4)
    have b3 := b2.alloc b2.size (.cells #[.slice A l.length c] 79)
    rw [World.size_alloc] at k2
    rw [World.size_alloc, World.size_alloc] at k3
    exact ⟨(k1.alloc _).alloc _, k2.alloc _, ⟨A, c, k3, h.below b3, hc, Only.refl _ _, by omega, k3.lt⟩, b3, Nat.le_refl _, Nat.le_succ _⟩
  go_enter_defers Try.func34, Try.ntmps34
  go_upto_region 3 with fail
  generalize World.alloc (World.alloc (World.alloc w _) _) _ = w1 at *
  clear h hmf
  generalize w.heap.size + 1 + 1 = p at *
  generalize w.heap.size + 1 = bi at *
  generalize w.heap.size = bx at *
  obtain ⟨lo, hlo⟩ : ∃ lo, w1.heap.size = lo := ⟨_, rfl⟩
  have hz1 : lo ≤ w1.heap.size := by omega
  have hxlo : bx < lo := by have := R0.x.lt; omega
  have hilo : bi < lo := by have := R0.i.lt; omega
  have hwlo : w.heap.size ≤ lo := by have := R0.lo.size; omega
  clear hlo
  have c1 := take_any 2 R0.rd hl
  go_wp2_with fail
  refine c1.mono ?_
  rintro e w2 (⟨hm2, A2, c2, rfl, -, -, h2⟩ | ⟨hm2, rfl, h2⟩)
  rotate_left
  · exact leave_bad (R0.bs rfl h2.only) (by unfold readP; rw [if_neg (by omega)]) rfl rfl
  have R2 := R0.read h2
  have hz2 := Nat.le_trans hz1 h2.only.size
  have hl2 : (l.drop 2).length ≤ 100000 := by rw [List.length_drop]; omega
  obtain ⟨s, body, -, -, sb, s1, k1, P4, N4, C4⟩ := num_step 4 (by omega) (l.drop 2) R2.rd.small hl2
  have HP : Hid (readP l = (numP 4 (l.drop 2)).bind fun s => if s.1 = sumB s.2 then (headP s.2).bind fun h => (restP h.1.1 h.2).bind fun q =>
    if q.2 = [] ∧ okR ⟨h.1.1, h.1.2.1, h.1.2.2.1, h.1.2.2.2, q.1.1, q.1.2.1, q.1.2.2⟩ = true then some ⟨h.1.1, h.1.2.1, h.1.2.2.1, h.1.2.2.2, q.1.1, q.1.2.1, q.1.2.2⟩ else none else none) := Lib.hid (by unfold readP; rw [if_pos hm2])
  have c4 := C4 _ p w2 w2 R2.rd
  clear c1 h2 R0 C4 hm2
  go_wp2_with fail
  refine c4.mono ?_
  rintro e w3 (⟨hm4, rfl, h3⟩ | ⟨hm4, rfl, h3⟩)
  rotate_left
  · exact leave_bad (R2.bs rfl h3.only) (by rw [HP.out, N4 hm4]; rfl) rfl rfl
  have R3 := R2.read h3
  have hz3 := Nat.le_trans hz2 h3.only.size
  have HP2 : Hid (readP l = if s = sumB body then (headP body).bind fun h => (restP h.1.1 h.2).bind fun q =>
    if q.2 = [] ∧ okR ⟨h.1.1, h.1.2.1, h.1.2.2.1, h.1.2.2.2, q.1.1, q.1.2.1, q.1.2.2⟩ = true then some ⟨h.1.1, h.1.2.1, h.1.2.2.1, h.1.2.2.2, q.1.1, q.1.2.1, q.1.2.2⟩ else none else none) := Lib.hid (by rw [HP.out, P4 hm4]; rfl)
  clear c4 h3 R2 P4 N4 HP hm4 hl2
  obtain ⟨A3, c3, hcell, hsum⟩ := read_sum R3.rd k1
  have R4 := R3.below (below_alloc w3 (.cells #[.slice A3 body.length c3] 25))
  have hz4 := Nat.le_trans hz3 (below_alloc w3 (.cells #[.slice A3 body.length c3] 25)).size
  have hsb := sumB_lt s1
  generalize sumB body = sm at *
  have vs : IntKind.u64.wrap (sm : Int) = (sm : Int) := by rw [IntKind.wrap_u64]; omega
  clear R3
  by_cases hss : s = sm
  rotate_left
  · have t1 : ((s : Int) != (sm : Int)) = true := by rw [bne_iff_ne]; omega
    have st := store_rec_all R4.x rfl recZ memZ
    obtain ⟨q1, q2, kx, ki, hO, lo⟩ := R4.put (recA recZ memZ) false
    have HR : Hid (ReadPost l w (.returned (.tuple #[.agg (recA recZ memZ), .bool false])) (((w3.alloc (.cells #[.slice A3 body.length c3] 25)).setRow bx (recA recZ memZ)).setCell ⟨bi, 0, none⟩ (.bool false))) := Lib.hid ⟨lo, .inr ⟨by rw [HP2.out, if_neg hss], rfl⟩⟩
    have KX := Lib.hid kx
    have KI := Lib.hid ki
    clear R4 kx ki hO lo
    go_wp2_with fail
    refine hsum.mono ?_
    rintro e w4 ⟨rfl, rfl⟩
    clear hsum
    go_wp2_with (refine wpList_store_run rfl 31 (.tmp 2) (.tmp 23) _ _ rfl rfl rfl st ?_; clear st)
    exact leave_ret KX.out KI.out HR.out rfl rfl
  · subst hss
    have t1 : ((s : Int) != (s : Int)) = false := by simp
    go_wp2_with fail
    refine hsum.mono ?_
    rintro e w4 ⟨rfl, rfl⟩
    clear hsum
    have HP3 : Hid (readP l = (headP body).bind fun h => (restP h.1.1 h.2).bind fun q =>
      if q.2 = [] ∧ okR ⟨h.1.1, h.1.2.1, h.1.2.2.1, h.1.2.2.2, q.1.1, q.1.2.1, q.1.2.2⟩ = true then some ⟨h.1.1, h.1.2.1, h.1.2.2.1, h.1.2.2.2, q.1.1, q.1.2.1, q.1.2.2⟩ else none) := Lib.hid (by rw [HP2.out, if_pos trivial])
    have PN : Hid (headP body = none → readP l = none) := Lib.hid fun q => by rw [HP3.out, q]; rfl
    obtain ⟨ka, l1, -, -, b1, s1', k1', Q1, N1, C1⟩ := num_step 1 (by omega) body s1 k1
    obtain ⟨kt, l2, -, -, b2, s2, k2, Q2, N2, C2⟩ := num_step 4 (by omega) l1 s1' k1'
    obtain ⟨kp, l3, -, -, b3, s3, k3, Q3, N3, C3⟩ := num_step 8 (by omega) l2 s2 k2
    obtain ⟨kn, l4, -, -, b4, s4, k4, Q4, N4, C4⟩ := num_step 8 (by omega) l3 s3 k3
    have M1 : Hid (body.length < 1 → headP body = none) := Lib.hid fun q => by unfold headP; rw [N1 q]; rfl
    have M2 : Hid (1 ≤ body.length → l1.length < 4 → headP body = none) := Lib.hid fun q1 q => by unfold headP; rw [Q1 q1]; show (numP 4 l1).bind _ = _; rw [N2 q]; rfl
    have M3 : Hid (1 ≤ body.length → 4 ≤ l1.length → l2.length < 8 → headP body = none) := Lib.hid fun q1 q2 q => by unfold headP; rw [Q1 q1]; show (numP 4 l1).bind _ = _; rw [Q2 q2]; show (numP 8 l2).bind _ = _; rw [N3 q]; rfl
    have M4 : Hid (1 ≤ body.length → 4 ≤ l1.length → 8 ≤ l2.length → l3.length < 8 → headP body = none) := Lib.hid fun q1 q2 q3 q => by unfold headP; rw [Q1 q1]; show (numP 4 l1).bind _ = _; rw [Q2 q2]; show (numP 8 l2).bind _ = _; rw [Q3 q3]; show (numP 8 l3).bind _ = _; rw [N4 q]; rfl
    have M5 : Hid (1 ≤ body.length → 4 ≤ l1.length → 8 ≤ l2.length → 8 ≤ l3.length → headP body = some ((ka, kt, kp, kn), l4)) := Lib.hid fun q1 q2 q3 q => by unfold headP; rw [Q1 q1]; show (numP 4 l1).bind _ = _; rw [Q2 q2]; show (numP 8 l2).bind _ = _; rw [Q3 q3]; show (numP 8 l3).bind _ = _; rw [Q4 q]; rfl
    have v1 : IntKind.u8.wrap (ka : Int) = (ka : Int) := by rw [IntKind.wrap_u8]; omega
    have v2 : (kt : Int) % 4294967296 = (kt : Int) := by omega
    have v2' : IntKind.u32.wrap (kt : Int) = (kt : Int) := by rw [IntKind.wrap_u32]; omega
    clear Q1 Q2 Q3 Q4 N1 N2 N3 N4 HP2 t1 vs hcell s1' s2 s3
    generalize World.alloc w3 _ = w4 at *
    have c1 := C1 _ p w4 w4 R4.rd
    clear C1
    go_wp2_with fail
    refine c1.mono ?_
    rintro e w5 (⟨m1, rfl, h5⟩ | ⟨m1, rfl, h5⟩)
    rotate_left
    · exact leave_bad (R4.bs rfl h5.only) (PN.out (M1.out m1)) rfl rfl
    have R5 := R4.read h5
    have hz5 := Nat.le_trans hz4 h5.only.size
    have c2 := C2 _ p w5 w5 R5.rd
    clear c1 C2 h5 R4
    go_wp2_with fail
    refine c2.mono ?_
    rintro e w6 (⟨m2, rfl, h6⟩ | ⟨m2, rfl, h6⟩)
    rotate_left
    · exact leave_bad (R5.bs rfl h6.only) (PN.out (M2.out m1 m2)) rfl rfl
    have R6 := R5.read h6
    have hz6 := Nat.le_trans hz5 h6.only.size
    have c3 := C3 _ p w6 w6 R6.rd
    clear c2 C3 h6 R5
    go_wp2_with fail
    refine c3.mono ?_
    rintro e w7 (⟨m3, rfl, h7⟩ | ⟨m3, rfl, h7⟩)
    rotate_left
    · exact leave_bad (R6.bs rfl h7.only) (PN.out (M3.out m1 m2 m3)) rfl rfl
    have R7 := R6.read h7
    have hz7 := Nat.le_trans hz6 h7.only.size
    have c4 := C4 _ p w7 w7 R7.rd
    clear c3 C4 h7 R6
    go_wp2_with fail
    refine c4.mono ?_
    rintro e w8 (⟨m4, rfl, h8⟩ | ⟨m4, rfl, h8⟩)
    rotate_left
    · exact leave_bad (R7.bs rfl h8.only) (PN.out (M4.out m1 m2 m3 m4)) rfl rfl
    have R8 := R7.read h8
    have hz8 := Nat.le_trans hz7 h8.only.size
    have HP4 : Hid (readP l = (restP ka l4).bind fun q => if q.2 = [] ∧ okR ⟨ka, kt, kp, kn, q.1.1, q.1.2.1, q.1.2.2⟩ = true then some ⟨ka, kt, kp, kn, q.1.1, q.1.2.1, q.1.2.2⟩ else none) := Lib.hid (by rw [HP3.out, M5.out m1 m2 m3 m4]; rfl)
    have st := store_rec_all R8.x rfl ⟨ka, kt, kp, kn, chgZ0, [], []⟩ memZ
    have hz9 := Nat.le_trans hz8 (only_row w8 bx (recA ⟨ka, kt, kp, kn, chgZ0, [], []⟩ memZ)).size
    have R9 := R8.row (recA ⟨ka, kt, kp, kn, chgZ0, [], []⟩ memZ)
    clear c4 h8 R7 R8 M1 M2 M3 M4 M5 PN HP3 m1 m2 m3 m4
    go_upto_block 0 with (refine wpList_store_run rfl 31 (.tmp 2) (.tmp 34) _ _ rfl rfl rfl st ?_; clear st)
    generalize World.setRow w8 _ _ = w9 at *
    dsimp only [Act.put]
    have kq : ka < 256 := b1
    have hz : chgZ0.Fits := ⟨by decide, by decide, (fun x hx => by cases hx), (fun x hx => by cases hx)⟩
    have hcz : ∀ W B, ChgAt W B chgZ0 ⟨none, 0, none, 0⟩ := fun W B => ⟨Bytes.nil _ _ _, Bytes.nil _ _ _, Nat.le_refl _, Nat.le_refl _, hz⟩
    go_cut [] from 35 to 46 (fun wx => ∃ (ch : ChgP) (tx : List TxP) (pg : List DirP) (m : RecMm) (lr : List Nat), restP ka l4 = some ((ch, tx, pg), lr) ∧ RS bx bi p w (recA ⟨ka, kt, kp, kn, ch, tx, pg⟩ m) lr wx ∧ RecFrom lo wx ⟨ka, kt, kp, kn, ch, tx, pg⟩ m)
    case first =>
      have ld := load_rec R9.x
      have cc : Calls Try.prog 23 #[.agg (recA ⟨ka, kt, kp, kn, chgZ0, [], []⟩ memZ)] w9 fun e w' => e = .returned (.bool (chgs ka)) ∧ Below w9.heap.size w9 w' := changes_any ⟨ka, kt, kp, kn, chgZ0, [], []⟩ memZ w9
      go_wp2_with (refine wpList_load_run rfl 31 (.tmp 2) _ _ rfl rfl ld ?_; clear ld)
      refine cc.mono ?_
      rintro e w10 ⟨rfl, b10⟩
      have R10 := R9.below b10
      have hz10 := Nat.le_trans hz9 b10.size
      clear cc b10 R9
      cases hch : chgs ka
      · have q0 : w10.cell? ⟨bx, 0, none⟩ = some (.int .u8 (ka : Nat)) := R10.x.cell 0
        by_cases h8 : ka = 8
        · have t1 : ((ka : Int) == 8) = true := by rw [beq_iff_eq]; omega
          have hR : restP ka l4 = (tabP l4).bind fun t => some ((chgZ0, t.1.1, t.1.2), t.2) := by unfold restP; rw [if_neg (by rw [hch]; simp), if_pos h8]
          have HR := Lib.hid hR
          have HK := Lib.hid h8
          have ct := rtables_any R10.rd R10.x rfl rfl R10.hx k4
          clear h8 hR hch
          go_wp2_with fail
          refine ct.mono ?_
          rintro e w11 (⟨t, d, r', htp, A3', c3', A4', c4', rfl, kx, o3, o4, ft, fd, h11, hO⟩ | ⟨hn, rfl, hk, hO⟩)
          rotate_left
          · exact leave_bad (R10.bs2 rfl hO hk) (by rw [HP4.out, HR.out, hn]; rfl) rfl rfl
          have R11 : RS bx bi p w (recA ⟨ka, kt, kp, kn, chgZ0, t, d⟩ ⟨⟨none, 0, none, 0⟩, A3', c3', A4', c4'⟩) r' w11 := ⟨kx, R10.i.only hO (fun q => q.elim R10.nei R10.neb), h11, R10.lo.trans (hO.below R10.lo.size fun b q => q.elim (fun q => by rw [q]; exact R10.rd.bp) fun q => by rw [q]; exact R10.hx), R10.hx, R10.hi⟩
          have hat : RecFrom lo w11 ⟨ka, kt, kp, kn, chgZ0, t, d⟩ ⟨⟨none, 0, none, 0⟩, A3', c3', A4', c4'⟩ := fun W hW => ⟨hcz _ _, own_txs (own_from o3 hz10 hW), own_dirs (own_from o4 hz10 hW), ⟨kq, b2, b3, b4, hz, ft, fd⟩⟩
          have FIN := Lib.hid (And.intro htp (And.intro R11 hat))
          clear ct htp kx o3 o4 ft fd h11 hO R11 hat R10
          go_wp2
          go_meet
          case rel => exact ⟨_, _, _, _, _, by rw [HR.out, FIN.out.1]; rfl, FIN.out.2.1, FIN.out.2.2⟩
        · have t1 : ((ka : Int) == 8) = false := by rw [beq_eq_false_iff_ne]; omega
          have hR : restP ka l4 = some ((chgZ0, [], []), l4) := by unfold restP; rw [if_neg (by rw [hch]; simp), if_neg h8]
          have hat : RecFrom lo w10 ⟨ka, kt, kp, kn, chgZ0, [], []⟩ memZ := fun W hW => ⟨hcz _ _, (fun j hj => absurd hj (by simp)), (fun j hj => absurd hj (by simp)), ⟨kq, b2, b3, b4, hz, (fun x hx => by cases hx), (fun x hx => by cases hx)⟩⟩
          have FIN := Lib.hid (And.intro hR (And.intro R10 hat))
          clear h8 hR hch hat R10
          go_wp2
          go_meet
          case rel => exact ⟨_, _, _, _, _, FIN.out.1, FIN.out.2.1, FIN.out.2.2⟩
      · have hR : restP ka l4 = (chgP l4).bind fun c => some ((c.1, [], []), c.2) := by unfold restP; rw [if_pos hch]
        have HR := Lib.hid hR
        have cg := rchange_any R10.rd k4
        clear hR hch
        go_wp2_with fail
        refine cg.mono ?_
        rintro e w11 (⟨ch, r', hcp, m, rfl, hnew, h11⟩ | ⟨hn, rfl, hO⟩)
        rotate_left
        · exact leave_bad (R10.bs rfl hO) (by rw [HP4.out, HR.out, hn]; rfl) rfl rfl
        have R11 := R10.read h11
        have st := store_chg_in R11 rfl ch m
        have R12 : RS bx bi p w (recA ⟨ka, kt, kp, kn, ch, [], []⟩ ⟨m, none, 0, none, 0⟩) r' (w11.setCells bx 4 (chgV ch m).toList) := R11.chg ch m
        have hO := setCells_only w11 bx (chgV ch m).toList 4
        have own1 := hO.own hnew.o1 fun k hk e => by
          rcases own_block (by decide) hnew.o1 R11.x with z | z
          · rw [z] at hk; cases hk
          · rw [e] at hk; exact z hk
        have own2 := hO.own hnew.o2 fun k hk e => by
          rcases own_block (by decide) hnew.o2 R11.x with z | z
          · rw [z] at hk; cases hk
          · rw [e] at hk; exact z hk
        have hat : RecFrom lo (w11.setCells bx 4 (chgV ch m).toList) ⟨ka, kt, kp, kn, ch, [], []⟩ ⟨m, none, 0, none, 0⟩ := fun W hW => ⟨(ChgNew.mk (own_from own1 hz10 hW) (own_from own2 hz10 hW) hnew.fits).at_, (fun j hj => absurd hj (by simp)), (fun j hj => absurd hj (by simp)), ⟨kq, b2, b3, b4, hnew.fits, (fun x hx => by cases hx), (fun x hx => by cases hx)⟩⟩
        have FIN := Lib.hid (And.intro hcp (And.intro R12 hat))
        clear cg hcp hnew h11 R11 R12 hO own1 own2 hat R10
        go_wp2_with (refine wpList_store_run rfl 27 (.tmp 40) (.tmp 39) _ _ rfl rfl rfl st ?_; clear st)
        go_meet
        case rel => exact ⟨_, _, _, _, _, by rw [HR.out, FIN.out.1]; rfl, FIN.out.2.1, FIN.out.2.2⟩
    case rest =>
      rename World => wx
      obtain ⟨ch, tx, pg, m, lr, hrp, RX, hat⟩ := hcut
      have HP5 : Hid (readP l = if lr = [] ∧ okR ⟨ka, kt, kp, kn, ch, tx, pg⟩ = true then some ⟨ka, kt, kp, kn, ch, tx, pg⟩ else none) := Lib.hid (by rw [HP4.out, hrp]; rfl)
      obtain ⟨Ar, cr, zr⟩ := RX.rd
      have hcell := zr.blk.cell 0
      clear zr hrp HP4 R9
      generalize hrec : (⟨ka, kt, kp, kn, ch, tx, pg⟩ : RecP) = r at *
      clear hrec hz hcz
      rcases Nat.eq_zero_or_pos lr.length with hn | hn
      · obtain rfl := List.eq_nil_of_length_eq_zero hn
        have ld := load_rec RX.x
        have cm := may_any r m wx.heap.size wx hat.at_ (Nat.le_refl _)
        go_wp2_with (refine wpList_load_run_g (by rfl) 31 (.tmp 2) _ _ rfl rfl ld ?_; clear ld)
        refine cm.mono ?_
        rintro e w13 ⟨rfl, b13⟩
        have RY := RX.below b13
        have hat2 := hat.only (Only.of_below b13 (fun _ => False)) fun b q => q.elim
        clear cm RX hat b13
        cases hok : okR r
        · have st := store_rec_all RY.x rfl recZ memZ
          obtain ⟨q1, q2, kx, ki, hO, lo⟩ := RY.put (recA recZ memZ) false
          have HR : Hid (ReadPost l w (.returned (.tuple #[.agg (recA recZ memZ), .bool false])) ((w13.setRow bx (recA recZ memZ)).setCell ⟨bi, 0, none⟩ (.bool false))) := Lib.hid ⟨lo, .inr ⟨by rw [HP5.out, if_neg (by rw [hok]; simp)], rfl⟩⟩
          have KX := Lib.hid kx
          have KI := Lib.hid ki
          clear RY kx ki hO lo hok hat2
          go_wp2_with (refine wpList_store_run rfl 31 (.tmp 2) (.tmp 58) _ _ rfl rfl rfl st ?_; clear st)
          exact leave_ret KX.out KI.out HR.out rfl rfl
        · have ld := load_rec RY.x
          have st := store_rec_all RY.x rfl r m
          obtain ⟨q1, q2, kx, ki, hO, lo⟩ := RY.put (recA r m) true
          have hat3 := (hat2.only hO fun b q => q.elim (fun q => by rw [q]; exact hxlo) fun q => by rw [q]; exact hilo).less hwlo
          have HR : Hid (ReadPost l w (.returned (.tuple #[.agg (recA r m), .bool true])) ((w13.setRow bx (recA r m)).setCell ⟨bi, 0, none⟩ (.bool true))) := Lib.hid ⟨lo, .inl ⟨r, m, by rw [HP5.out, if_pos ⟨by trivial, hok⟩], rfl, hat3⟩⟩
          have KX := Lib.hid kx
          have KI := Lib.hid ki
          clear RY kx ki hO lo hok hat2 hat3
          go_wp2_with (first | (refine wpList_load_run rfl 31 (.tmp 2) _ _ rfl rfl ld ?_; clear ld) | (refine wpList_store_run rfl 31 (.tmp 2) (.tmp 59) _ _ rfl rfl rfl st ?_; clear st))
          exact leave_ret KX.out KI.out HR.out rfl rfl
      · have st := store_rec_all RX.x rfl recZ memZ
        obtain ⟨q1, q2, kx, ki, hO, lo⟩ := RX.put (recA recZ memZ) false
        have HR : Hid (ReadPost l w (.returned (.tuple #[.agg (recA recZ memZ), .bool false])) ((wx.setRow bx (recA recZ memZ)).setCell ⟨bi, 0, none⟩ (.bool false))) := Lib.hid ⟨lo, .inr ⟨by rw [HP5.out, if_neg (fun q => by rw [q.1] at hn; exact absurd hn (by simp))], rfl⟩⟩
        have KX := Lib.hid kx
        have KI := Lib.hid ki
        clear RX kx ki hO lo hat
        go_wp2_with (refine wpList_store_run rfl 31 (.tmp 2) (.tmp 58) _ _ rfl rfl rfl st ?_; clear st)
        exact leave_ret KX.out KI.out HR.out rfl rfl
end Go.Proofs.Ythbaoljghofkoaa
