/- The law DiskLasts. Conditions: none. -/
import Derived.Test.YtnbbneldbagohaaRL2
namespace Go.Proofs.Ytnbbneldbagohaa
open Go.ChangeShapes Go.WideShapes Go.ChangeAt Go.RowKit
set_option linter.unusedVariables false
set_option linter.unusedSimpArgs false
set_option maxRecDepth 20000

def waitsV (D : DevP) (k : Nat) : List Value := (List.range k).map fun i => .int .i64 (D.waits 0 (i : Nat) : Nat)
theorem waitsV_next (D : DevP) (k : Nat) : waitsV D (k + 1) = waitsV D k ++ [.int .i64 (D.waits 0 (k : Nat) : Nat)] := by
  unfold waitsV
  rw [List.range_succ, List.map_append]
  rfl
theorem waitsV_at {D : DevP} {n k : Nat} (hk : k < n) : (waitsV D n)[k]? = some (.int .i64 (D.waits 0 (k : Nat) : Nat)) := by
  unfold waitsV
  rw [List.getElem?_map, List.getElem?_range hk]
  rfl
theorem fates_first {w : World} {B : Nat} {A : Option Addr} {fs : List FateP} (h : FatesAt w B A fs) (b o : Nat) (e : A = some ⟨b, o, none⟩) (h0 : 0 < fs.length) : b < B := by
  obtain ⟨b', o', e', hb', -⟩ := h.at_ (k := 0) h0
  rw [e] at e'
  injection e' with e'
  injection e' with e1 e2
  subst e1
  exact hb'
set_option maxHeartbeats 16000000 in
theorem lasts_any (a b : Int) (A : Option Addr) (c : Nat) (l : List OpP) (Af : Option Addr) (cf : Nat) (fa : List FateP) (Ag : Option Addr) (cg : Nat) (fb : List FateP) (w : World) (h : OpsAt w w.heap.size A l) (hfa : FatesAt w w.heap.size Af fa) (hfb : FatesAt w w.heap.size Ag fb) :
    Calls Try.prog 7 #[.int .i64 a, .int .i64 b, .slice A l.length c, .slice Af fa.length cf, .slice Ag fb.length cg] w (TrueB w) := by
  go_enter Try.func7, Try.ntmps7
  go_wp2_with fail
  refine (heavy_any a b A c l w.heap.size w h).mono ?_
  rintro e w1 ⟨⟨r, rfl, hr⟩, rfl⟩
  cases r with
  | true =>
    clear hr h hfa hfb
    go_wp2_with fail
    refine (known_any _).mono ?_
    rintro e w1 ⟨rfl, b1⟩
    go_wp2
    go_ret
    exact ⟨rfl, b1⟩
  | false =>
    obtain ⟨-, -, hlen, hlight⟩ := hr rfl
    clear hr
    rcases Nat.lt_or_ge 60 fa.length with hfl | hfl
    · have t1 : decide ((60 : Int) < (fa.length : Int)) = true := by rw [decide_eq_true_iff]; omega
      clear h hfa hfb hlight
      go_wp2_with fail
      refine (known_any _).mono ?_
      rintro e w1 ⟨rfl, b1⟩
      go_wp2
      go_ret
      exact ⟨rfl, b1⟩
    have t1 : decide ((60 : Int) < (fa.length : Int)) = false := by rw [decide_eq_false_iff_not]; omega
    rcases Nat.lt_or_ge 60 fb.length with hfl2 | hfl2
    · have t2 : decide ((60 : Int) < (fb.length : Int)) = true := by rw [decide_eq_true_iff]; omega
      clear h hfa hfb hlight
      go_wp2_with fail
      refine (known_any _).mono ?_
      rintro e w1 ⟨rfl, b1⟩
      go_wp2
      go_ret
      exact ⟨rfl, b1⟩
    have t2 : decide ((60 : Int) < (fb.length : Int)) = false := by rw [decide_eq_false_iff_not]; omega
    go_wp2_with fail
    refine (known_any _).mono ?_
    rintro e w1 ⟨rfl, b1⟩
    go_wp2_with fail
    refine (new_any a b w1).mono ?_
    rintro e w2 ⟨h2, h2n, b2⟩
    have bw2 := b1.trans (b2.mono b1.size)
    by_cases hok : okN a ∧ okN b
    · obtain ⟨p1, rfl, hd1⟩ := h2 hok
      have hA := Dv.start (w0 := w) hd1 b1.size
      generalize hF1 : (fun x => w1.heap.size ≤ x ∧ x < w2.heap.size) = F1 at *
      clear h2 h2n hd1 hF1
      obtain ⟨gp1, _, _, _, rfl, -⟩ := hA.dev
      go_wp2_with fail
      refine (rnew_any a b w2).mono ?_
      rintro e w3 ⟨h3, -, b3⟩
      obtain ⟨p2, rfl, hd2⟩ := h3 hok
      have hB := Rv.start (w0 := w) hd2 bw2.size
      have hdis : ∀ x, F1 x → (fun x => w2.heap.size ≤ x ∧ x < w3.heap.size) x → False := fun x q z => by have := hA.hi x q; omega
      generalize (fun x => w2.heap.size ≤ x ∧ x < w3.heap.size) = F2 at *
      have h2v : DvR (DevP.new a.toNat b.toNat) (DevP.new a.toNat b.toNat) w w3 F1 F2 _ _ := ⟨hA.below b3, hB, hdis⟩
      have hgd : (DevP.new a.toNat b.toNat).good 0 := DevP.good_new (by have := hok.1.2; omega) (by have := hok.2.2; omega)
      clear h3 hd2 hA hB hdis
      have bw3 := bw2.trans (b3.mono bw2.size)
      obtain ⟨gp2, _, _, _, rfl, -⟩ := h2v.b.dev
      clear b1 b2 b3 bw2
      generalize DevP.new a.toNat b.toNat = D0 at *
      go_wp2_with fail
      go_loopw [13] (fun i wr => ∃ (k : Nat) (D DB : DevP) (F1 F2 : Nat → Prop), k ≤ l.length ∧ i = .int .i64 k ∧ DvR D DB w wr F1 F2 (.pointer (some ⟨gp1, 0, none⟩)) (.pointer (some ⟨gp2, 0, none⟩)) ∧ D.good k ∧ DB.good k ∧ Below w.heap.size w wr) (fun i _ => l.length - (intOf i).toNat)
      case atStart => exact ⟨0, D0, D0, F1, F2, by omega, rfl, h2v, hgd, hgd, bw3⟩
      case round =>
        clear h2v hgd bw3
        obtain ⟨k, D, DB, F1, F2, hk, rfl, hD, hG, hGB, hb⟩ := hrel
        have hwr := hb.size
        rcases Nat.lt_or_ge k l.length with hlt | hge
        · have e1 : decide ((k : Int) < (l.length : Int)) = true := by rw [decide_eq_true_iff]; omega
          have e2 : (0 : Int) ≤ (k : Int) := by omega
          have e3 : (k : Int) < (l.length : Int) := by omega
          obtain ⟨hl1, hl2⟩ := hlight _ (List.getElem_mem hlt)
          obtain ⟨b, o, v0, v1, v2, v3, v4, rfl, hbB, c0, c1, c2, c3, c4, hv⟩ := (h.below hb) k hlt
          generalize l[k] = x at *
          have cD := does_any hD hwr hG hGB (by omega) x v0 v1 v2 v3 v4 hv (by omega) (by omega)
          clear hD hv
          go_wp2_with fail
          refine cD.mono ?_
          rintro e w5 ⟨ok, rfl, -, ⟨F1', F2', hD5⟩, b5⟩
          have hb5 := hb.trans b5
          have hG5 := hG.doesP x
          have hG6 := hGB.doesP x
          clear cD hb b5
          go_wp2
          go_roundw
          case rel => exact ⟨k + 1, _, _, F1', F2', by omega, by go_num, hD5, hG5, hG6, hb5⟩
          case measure => simp [intOf]; omega
        · obtain rfl : k = l.length := by omega
          have e1 : decide ((l.length : Int) < (l.length : Int)) = false := by rw [decide_eq_false_iff_not]; omega
          have cC := crash_any hD.a.dev hD.a.hi hG (by omega) none 0 [] ⟨At.nil _ _ _, fun x hx => by cases hx⟩ (fun b o e => by cases e) (by simp)
          have hGc := (hG.crash []).mono (Nat.zero_le l.length)
          have hlc : (D.crash []).left = none := rfl
          go_wp2_with fail
          refine cC.mono ?_
          rintro e w4 ⟨rfl, hp⟩
          obtain ⟨hD4, b4⟩ := hD.postA hwr hp
          have hb4 := hb.trans b4
          clear cC hp hD hb b4 hG hwr
          generalize grow F1 wr w4 = F1' at *
          generalize D.crash [] = DC at *
          go_wp2_with fail
          go_loopw [14] (fun i wr => ∃ (k : Nat) (D DB : DevP) (F1 F2 : Nat → Prop), k ≤ l.length ∧ i = .int .i64 k ∧ DvR D DB w wr F1 F2 (.pointer (some ⟨gp1, 0, none⟩)) (.pointer (some ⟨gp2, 0, none⟩)) ∧ D.good (l.length + k) ∧ DB.good (l.length + k) ∧ D.left = none ∧ Below w.heap.size w wr) (fun i _ => l.length - (intOf i).toNat)
          case atStart => exact ⟨0, DC, DB, F1', F2, by omega, rfl, hD4, hGc, hGB, hlc, hb4⟩
          case round =>
            clear hD4 hGc hGB hlc hb4 e1
            obtain ⟨k, D, DB, F1, F2, hk, rfl, hD, hG, hGB, hlf, hb⟩ := hrel
            have hwr := hb.size
            by_cases hlt : k < l.length ∧ k < 20
            · obtain ⟨hlt, h20⟩ := hlt
              have e1 : decide ((k : Int) < (l.length : Int)) = true := by rw [decide_eq_true_iff]; omega
              have e4 : decide ((k : Int) < 20) = true := by rw [decide_eq_true_iff]; omega
              have e2 : (0 : Int) ≤ (k : Int) := by omega
              have e3 : (k : Int) < (l.length : Int) := by omega
              obtain ⟨hl1, hl2⟩ := hlight _ (List.getElem_mem hlt)
              obtain ⟨b, o, v0, v1, v2, v3, v4, rfl, hbB, c0, c1, c2, c3, c4, hv⟩ := (h.below hb) k hlt
              generalize l[k] = x at *
              have hv' := hv
              obtain ⟨hv0, -, -, -, -, hx1, -⟩ := hv'
              rw [hv0] at c0
              obtain ⟨m9, hm9⟩ : ∃ m, x.kind % 9 = m := ⟨_, rfl⟩
              have s1 : (x.kind : Int) % 9 = (m9 : Int) := by omega
              have s2 : Int.tmod (x.kind : Int) 9 = (m9 : Int) := by rw [Int.tmod_eq_emod_of_nonneg (by omega)]; exact s1
              by_cases h8 : m9 = 8
              · subst h8
                clear hv hm9 hx1 hv0
                go_wp2
                go_roundw
                case rel => exact ⟨k + 1, D, DB, F1, F2, by omega, by go_num, hD, hG.mono (by omega), hGB.mono (by omega), hlf, hb⟩
                case measure => simp [intOf]; omega
              · have hlf' := doesP_left hlf (x := x) (by omega)
                have u8 : ((m9 : Int) != 8) = true := by rw [bne_iff_ne]; omega
                have cD := does_any hD hwr hG hGB (by omega) x v0 v1 v2 v3 v4 hv (by omega) (by omega)
                rw [hv0] at cD
                have hG5 := hG.doesP x
                have hG6 := hGB.doesP x
                clear hD hv hv0 hm9 h8
                go_wp2_with fail
                refine cD.mono ?_
                rintro e w5 ⟨ok, rfl, -, ⟨F1', F2', hD5⟩, b5⟩
                have hb5 := hb.trans b5
                clear cD hb b5
                go_wp2
                go_roundw
                case rel => exact ⟨k + 1, _, _, F1', F2', by omega, by go_num, hD5, hG5, hG6, hlf', hb5⟩
                case measure => simp [intOf]; omega
            · have hA := hD.a
              clear hD hGB
              have ek : k = l.length ∨ (k < l.length ∧ 20 ≤ k) := by omega
              clear hlt h hlight
              obtain ⟨m, hm⟩ : ∃ m, (D.f 0).length = m := ⟨_, rfl⟩
              have hm4 : m ≤ 4096 := by rw [← hm]; exact (hG 0 (by omega)).1
              have hil0 : (D.image 0).length = m := by rw [image_length D (by omega)]; exact hm
              have hd := hA.dev
              have c0 := image_any hA.dev hG 0 (by omega)
              rw [show RetRows (D.image 0) wr = fun e w' => RetRows (D.image 0) wr e w' from rfl] at c0
              rcases ek with rfl | ⟨z1, z2⟩
              have e1 : decide ((l.length : Int) < (l.length : Int)) = false := by rw [decide_eq_false_iff_not]; omega
              rotate_left
              have e1 : decide ((k : Int) < (l.length : Int)) = true := by rw [decide_eq_true_iff]; omega
              have e4 : decide ((k : Int) < 20) = false := by rw [decide_eq_false_iff_not]; omega
              all_goals
                go_wp2_with fail
                refine c0.mono ?_
                rintro e w5 hret
                obtain ⟨A5, n5, L5, rfl, o5, r5, b5, -, -⟩ := hret.is
                rw [hil0] at o5 ⊢
                have i5 := Img.new o5 r5 hA.hi
                have hA5 := hA.below b5
                have hb5 := hb.trans (b5.mono hwr)
                have cS := sync_any hA5.dev hA5.hi hG (by omega) 1 (by omega)
                have hG2 := hG.sync 1
                have hsw := sync_waits hlf (n := 1) (by omega)
                have hi0 : (D.sync 1).image 0 = D.image 0 := by
                  have := sync_other hlf (n := 1) (m := 0) (by omega)
                  unfold DevP.image
                  rw [this]
                clear hret o5 r5 b5 hA hb c0 hd
                go_wp2_with fail
                refine cS.mono ?_
                rintro e w6 ⟨rfl, hp⟩
                obtain ⟨hA6, b6⟩ := hA5.post hb5.size hp
                have i6 := i5.post hp.2
                have hb6 := hb5.trans b6
                rw [← hi0] at i6
                have hil6 : ((D.sync 1).image 0).length = m := by rw [hi0]; exact hil0
                have hm6 : (D.sync 1).size 0 = m := by
                  unfold DevP.size
                  rw [if_pos (by omega), ← image_length _ (by omega)]
                  exact hil6
                clear cS hp hA5 hb5 b6 i5 hi0 hil0 hm hlf hG
                generalize grow F1 w5 w6 = F1' at *
                generalize D.sync 1 = D2 at *
                have c1 := image_any hA6.dev hG2 1 (by omega)
                go_wp2_with fail
                refine c1.mono ?_
                rintro e w7 hret
                obtain ⟨A7, n7, L7, rfl, o7, r7, b7, -, -⟩ := hret.is
                have i7 := Img.new o7 r7 hA6.hi
                have i67 := i6.below b7
                have hA7 := hA6.below b7
                have hb7 := hb6.trans (b7.mono hb6.size)
                obtain ⟨m1, hm1⟩ : ∃ m1, (D2.image 1).length = m1 := ⟨_, rfl⟩
                rw [hm1] at i7 ⊢
                clear hret o7 r7 b7 hA6 hb6 i6 c1
                go_wp2_with fail
                go_loopw [17, 18] (fun v i wr => ∃ (k : Nat), k ≤ m ∧ i = .int .i64 k ∧ wr.ownsRow 0 3 1 v k (waitsV D2 k) ∧ (∀ b, v.ownBlock = some b → ¬ F1' b) ∧ Img wr F1' A5 m n5 L5 (D2.image 0) ∧ Img wr F1' A7 m1 n7 L7 (D2.image 1) ∧ Dv D2 w wr F1' (.pointer (some ⟨gp1, 0, none⟩)) ∧ (∀ b, v.ownBlock = some b → w.heap.size ≤ b) ∧ Below w.heap.size w wr) (fun _ i _ => m - (intOf i).toNat)
                case atStart => exact ⟨0, Nat.zero_le _, rfl, World.ownsRow_nil _ _ _ _, (fun b e => by cases e), i67, i7, hA7, (fun b e => by cases e), hb7⟩
                case round =>
                  clear i67 i7 hA7 hb7
                  obtain ⟨k, hk, rfl, ho, hout, i5, i7, hA, hlo, hb⟩ := hrel
                  have cZ := sizes_any hA.dev 0 (by omega)
                  rw [hm6] at cZ
                  go_wp2_with fail
                  refine cZ.mono ?_
                  rintro e w8 ⟨rfl, rfl⟩
                  clear cZ
                  rcases Nat.lt_or_ge k m with hlt | hge
                  · have e2 : decide ((k : Int) < (m : Int)) = true := by rw [decide_eq_true_iff]; omega
                    have cW := waits_any hA.dev hG2 0 (by omega) (k : Nat)
                    obtain ⟨i0, hi0, hz0, hz1, hz2⟩ := info_parts int_info
                    obtain ⟨A9, n9, rfl, -, -⟩ := own_form ho
                    have HNX := Lib.hid (waitsV_next D2 k)
                    have hwr := hb.size
                    have a0 := fun o => (Below.refl wr.heap.size wr).alloc (Nat.le_refl _) o
                    have nxt : ∀ (o : Obj) (A8 : Option Addr) (c8 : Nat) (w8 : World) (L8 : List Value), w8.ownsRow 0 3 1 (.slice A8 (k + 1) c8) (k + 1) L8 → (wr.alloc o).grownBy w8 (Value.slice A9 k n9).ownBlock → ((Value.slice A8 (k + 1) c8).ownBlock = (Value.slice A9 k n9).ownBlock ∨ (Value.slice A8 (k + 1) c8).ownBlock = some (wr.alloc o).heap.size) →
                        (∀ b, (Value.slice A8 (k + 1) c8).ownBlock = some b → ¬ F1' b) ∧ Img w8 F1' A5 m n5 L5 (D2.image 0) ∧ Img w8 F1' A7 m1 n7 L7 (D2.image 1) ∧ Dv D2 w w8 F1' (.pointer (some ⟨gp1, 0, none⟩)) ∧ (∀ b, (Value.slice A8 (k + 1) c8).ownBlock = some b → w.heap.size ≤ b) ∧ Below w.heap.size w w8 := fun o A8 c8 w8 L8 ho8 hg8 hat8 => by
                      have hsz : (wr.alloc o).heap.size = wr.heap.size + 1 := by simp
                      refine ⟨fun b e z => ?_, (i5.below (a0 o)).grown (ho.alloc o) (by decide) (by decide) hg8, (i7.below (a0 o)).grown (ho.alloc o) (by decide) (by decide) hg8, (hA.below (a0 o)).grown hg8 hout, fun b e => ?_, (hb.trans ((a0 o).mono hwr)).grown hg8 (by omega) hlo⟩
                      · rcases hat8 with y | y
                        · exact hout b (y.symm.trans e) z
                        · rw [y] at e
                          injection e with e
                          have := hA.hi b z
                          omega
                      · rcases hat8 with y | y
                        · exact hlo b (y.symm.trans e)
                        · rw [y] at e
                          injection e with e
                          omega
                    have NXT := Lib.hid nxt
                    clear nxt i5 i7 hA hlo hout a0
                    generalize waitsV D2 k = L9 at *
                    generalize D2.waits 0 (k : Nat) = wn at *
                    go_wp2_with fail
                    refine cW.mono ?_
                    rintro e w8 ⟨rfl, rfl⟩
                    clear cW hb
                    go_wp2_with (at_builtin; refine wpList_append_at2 rfl _ _ 55 55 rfl 0 3 i0 _ 8 Try.underlying55 Try.underlying55 hi0 hz0 hz1 hz2 rfl (.slice A9 k n9) k L9 rfl (ho.alloc _) (wr.heap.size + 1) (some ⟨wr.heap.size, 0, none⟩) 1 1 [.int .i64 wn] rfl rfl (At.new wr [.int .i64 wn] 3 (0, 0)) (by simp [Value.oneCell']) (by unfold maxLen; omega) (by omega) (Nat.zero_le _) ?_; intro A8 c8 w8 ho8 hg8 hat8; have HM := Lib.hid (NXT.out _ A8 c8 w8 _ ho8 hg8 hat8); have HO := Lib.hid ho8; clear ho8 hg8 hat8)
                    go_roundw
                    case rel => exact ⟨k + 1, by omega, by go_num, by rw [HNX.out]; exact HO.out, HM.out⟩
                    case measure => simp [intOf]; omega
                  · obtain rfl : k = m := by omega
                    have e2 : decide ((k : Int) < (k : Int)) = false := by rw [decide_eq_false_iff_not]; omega
                    obtain ⟨A9, n9, rfl, -, -⟩ := own_form ho
                    have hwr2 := hb.size
                    have hfaw : FatesAt wr wr.heap.size Af fa := ⟨(hfa.1.below hb).more hwr2, hfa.2⟩
                    have cC := crash_any hA.dev hA.hi hG2 (by omega) Af cf fa hfaw (fun b o e h0 z => by have := fates_first hfa b o e h0; have := hA.lo b z; omega) (by omega)
                    have hG3 := hG2.crash fa
                    have hq1 : (D2.crash fa).image 1 = D2.image 1 := crash_image hsw fa
                    have hql : ((D2.crash fa).image 0).length = k := by rw [image_length _ (by omega), crash_length, ← image_length D2 (by omega)]; exact hil6
                    have hqe := fun j (h1 : j < (D2.image 0).length) (h2 : j < ((D2.crash fa).image 0).length) (hw : D2.waits 0 (j : Nat) = 0) => crash_at_nil fa h1 h2 hw
                    have hqw := crash_waits0 D2 fa 0
                    have hqn := crash_waits D2 fa 0
                    have h128 := image_128 hG2 (n := 0) (by omega)
                    have h129 := image_128 hG3 (n := 0) (by omega)
                    go_wp2_with fail
                    refine cC.mono ?_
                    rintro e w10 ⟨rfl, hp⟩
                    obtain ⟨hA10, b10⟩ := hA.post hwr2 hp
                    have i5a := i5.post hp.2
                    have i7a := i7.post hp.2
                    have ho10 := hp.2.own ho hout
                    have hb10 := hb.trans b10
                    clear cC hp hA b10 hb i5 i7 ho hout hlo hfaw hwr2 hsw hm6
                    generalize grow F1' wr w10 = F3 at *
                    generalize D2.crash fa = D3 at *
                    have hw10 := hb10.size
                    have cI := image_any hA10.dev hG3 0 (by omega)
                    go_wp2_with fail
                    refine cI.mono ?_
                    rintro e w11 hret
                    obtain ⟨A11, n11, L11, rfl, o11, r11, b11, -, -⟩ := hret.is
                    rw [hql] at o11 ⊢
                    have i11 := Img.new o11 r11 hA10.hi
                    have i5b := i5a.below b11
                    have i7b := i7a.below b11
                    have hA11 := hA10.below b11
                    have ho11 := kept_below b11 ho10
                    have hb11 := hb10.trans (b11.mono hw10)
                    have hw11 := hb11.size
                    clear hret cI o11 r11 b11 hA10 i5a i7a ho10 hb10 hw10
                    have cI := image_any hA11.dev hG3 1 (by omega)
                    rw [hq1] at cI
                    go_wp2_with fail
                    refine cI.mono ?_
                    rintro e w12 hret
                    obtain ⟨A12, n12, L12, rfl, o12, r12, b12, at12, re12⟩ := hret.is
                    have i5c := i5b.below b12
                    have i7c := i7b.below b12
                    have i11c := i11.below b12
                    have hA12 := hA11.below b12
                    have ho12 := kept_below b12 ho11
                    have hb12 := hb11.trans (b12.mono hw11)
                    have hw12 := hb12.size
                    have hil7 := image_len hG2 1
                    have cS := blocks_any A12 A7 n12 n7 L12 L7 (D2.image 1) (D2.image 1) w12.heap.size w12 at12 i7c.at_.1 re12 i7c.at_.2 hil7
                    rw [decide_eq_true (show D2.image 1 = D2.image 1 from rfl)] at cS
                    rw [hm1] at cS ⊢
                    clear hret cI o12 r12 b12 hA11 i5b i7b i11 ho11 hb11 hw11 at12 re12 hil7
                    go_wp2_with fail
                    refine cS.mono ?_
                    rintro e w13 ⟨rfl, hd⟩
                    have b13 := hd.below w12.heap.size
                    have i5d := i5c.below b13
                    have i11d := i11c.below b13
                    have hA13 := hA12.below b13
                    have ho13 := kept_below b13 ho12
                    have hb13 := hb12.trans (b13.mono hw12)
                    have hw13 := hb13.size
                    clear cS hd b13 hA12 i5c i7c i11c ho12 hb12 hw12
                    go_wp2_with fail
                    go_loopw [20] (fun i wr => ∃ (j : Nat), j ≤ k ∧ i = .int .i64 j ∧ Below w13.heap.size w13 wr) (fun i _ => k - (intOf i).toNat)
                    case atStart => exact ⟨0, Nat.zero_le _, rfl, Below.refl _ _⟩
                    case round =>
                      obtain ⟨j, hj, rfl, hb⟩ := hrel
                      have i11 := i11d.below hb
                      have hA14 := hA13.below hb
                      have hb14 := hb13.trans (hb.mono hw13)
                      rcases Nat.lt_or_ge j k with hlt | hge
                      · have e3 : decide ((j : Int) < (k : Int)) = true := by rw [decide_eq_true_iff]; omega
                        have e4 : (0 : Int) ≤ (j : Int) := by omega
                        have e5 : (j : Int) < (k : Int) := by omega
                        obtain ⟨bx, Ax, cx, rfl, -, x0, hbx⟩ := (i5d.below hb).elem hlt hil6 h128
                        obtain ⟨by', Ay, cy, rfl, -, y0, hby⟩ := i11.elem hlt hql h129
                        have ho14 := kept_below hb ho13
                        obtain ⟨bz, rfl, -, -⟩ := own_pos ho14 (by omega)
                        have z0 := (ho14.cellAt j (by omega)).trans (waitsV_at hlt)
                        have dn : ∀ q, Below wr.heap.size wr (wr.drewN q) := fun q => below_drewN (Below.refl _ _) q
                        have cW := fun q => waits_any (hA14.below (dn q)).dev hG3 0 (by omega) (j : Nat)
                        rw [hqw] at cW
                        have fin : ∀ q, Below w13.heap.size w13 (wr.drewN q) := fun q => hb.trans ((dn q).mono hb.size)
                        have FIN := Lib.hid fin
                        have hl1 := h128 _ (List.getElem_mem (show j < (D2.image 0).length by omega))
                        have hl2 := h129 _ (List.getElem_mem (show j < (D3.image 0).length by omega))
                        have hqe2 := hqe j (by omega) (by omega)
                        generalize (D2.image 0)[j]'(by omega) = lx at *
                        generalize (D3.image 0)[j]'(by omega) = ly at *
                        have cT := fun q => same_any Ay Ax cy cx ly lx wr.heap.size (wr.drewN q) (hby.below (dn q)) (hbx.below (dn q))
                        rw [hl1, hl2] at cT
                        clear hb14 hA14 i11 hb fin dn hby hbx ho14 hl1 hl2
                        by_cases hz : D2.waits 0 (j : Nat) = 0
                        · rw [hz] at z0
                          rw [decide_eq_true (hqe2 hz)] at cT
                          clear hz hqe2
                          go_wp2_with fail
                          go_quiet (first
                            | (go_at_call 22; exact Calls.quiet_of_same ((cW _).mono fun _ _ hh => ⟨hh.1, hh.2.symm⟩))
                            | (go_at_call 21; exact Calls.quiet_of_same ((cT _).mono fun _ _ hh => ⟨hh.1, hh.2.symm⟩))
                            | fail)
                          go_wp2
                          go_roundw
                          case rel => exact ⟨j + 1, by omega, by go_num, FIN.out _⟩
                          case measure => simp [intOf]; omega
                        · generalize D2.waits 0 (j : Nat) = wn at *
                          have t9 : ((wn : Int) == 0) = false := by rw [beq_eq_false_iff_ne]; omega
                          clear hz hqe2 cT
                          go_wp2_with fail
                          go_quiet (first
                            | (go_at_call 22; exact Calls.quiet_of_same ((cW _).mono fun _ _ hh => ⟨hh.1, hh.2.symm⟩))
                            | fail)
                          go_wp2
                          go_roundw
                          case rel => exact ⟨j + 1, by omega, by go_num, FIN.out _⟩
                          case measure => simp [intOf]; omega
                      · obtain rfl : j = k := by omega
                        have e3 : decide ((j : Int) < (j : Int)) = false := by rw [decide_eq_false_iff_not]; omega
                        have hw14 := hb14.size
                        have hfbw : FatesAt wr wr.heap.size Ag fb := ⟨(hfb.1.below hb14).more hw14, hfb.2⟩
                        have cC := crash_any hA14.dev hA14.hi hG3 (by omega) Ag cg fb hfbw (fun b o e h0 z => by have := fates_first hfb b o e h0; have := hA14.lo b z; omega) (by omega)
                        have hq2 : (D3.crash fb).image 0 = D3.image 0 := crash_image hqn fb
                        have hG4 := hG3.crash fb
                        go_wp2_with fail
                        refine cC.mono ?_
                        rintro e w15 ⟨rfl, hp⟩
                        obtain ⟨hA15, b15⟩ := hA14.post hw14 hp
                        have i15 := i11.post hp.2
                        have hb15 := hb14.trans b15
                        have hw15 := hb15.size
                        clear cC hp hA14 i11 hb14 b15 hb hw14 i5d i11d hA13 ho13 hb13 hw13 hfbw
                        have cI := image_any hA15.dev hG4 0 (by omega)
                        rw [hq2] at cI
                        go_wp2_with fail
                        refine cI.mono ?_
                        rintro e w16 hret
                        obtain ⟨A16, n16, L16, rfl, o16, r16, b16, at16, re16⟩ := hret.is
                        have i16 := i15.below b16
                        have hb16 := hb15.trans (b16.mono hw15)
                        have hil7 := image_len hG3 0
                        have cS := blocks_any A16 A11 n16 n11 L16 L11 (D3.image 0) (D3.image 0) w16.heap.size w16 at16 i16.at_.1 re16 i16.at_.2 hil7
                        rw [decide_eq_true (show D3.image 0 = D3.image 0 from rfl)] at cS
                        rw [hql] at cS ⊢
                        clear hret cI o16 r16 b16 at16 re16 hil7 i15 i16 hb15 hA15
                        go_wp2_with fail
                        refine cS.mono ?_
                        rintro e w17 ⟨rfl, hd⟩
                        have hb17 := hb16.trans ((hd.below w16.heap.size).mono hb16.size)
                        clear cS hd hb16
                        go_wp2
                        go_ret
                        exact ⟨rfl, hb17⟩
    · obtain rfl := h2n hok
      clear h2 h2n h hlight hfa hfb
      go_wp2_with fail
      refine (rnew_any a b w2).mono ?_
      rintro e w3 ⟨-, h3, b3⟩
      obtain rfl := h3 hok
      have bw3 := bw2.trans (b3.mono bw2.size)
      clear h3 hok b1 b2 b3 bw2
      go_wp2
      go_ret
      exact ⟨rfl, bw3⟩
theorem diskLasts_walk (v0 v1 v2 v3 v4 : Value) (w : World) (w0 : IsInt .i64 w v0) (w1 : IsInt .i64 w v1) (w2 : IsOps w v2) (w3 : IsFates w v3) (w4 : IsFates w v4) :
    Calls Try.prog 7 #[v0, v1, v2, v3, v4] w fun e w' => e = .returned (.bool true) ∧ Below w.heap.size w w' := by
  obtain ⟨a, rfl, ha⟩ := w0
  obtain ⟨b, rfl, hb⟩ := w1
  obtain ⟨A, c, l, rfl, h⟩ := w2
  obtain ⟨Af, cf, fa, rfl, hf⟩ := w3
  obtain ⟨Ag, cg, fb, rfl, hg⟩ := w4
  exact lasts_any a b A c l Af cf fa Ag cg fb w h hf hg
end Go.Proofs.Ytnbbneldbagohaa
