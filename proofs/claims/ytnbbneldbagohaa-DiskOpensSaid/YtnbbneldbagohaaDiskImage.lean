/- disk: Image. Conditions: the device lies there. -/
import Derived.Test.YtnbbneldbagohaaDiskCrash
namespace Go.Proofs.Ytnbbneldbagohaa
open Go.ChangeShapes Go.WideShapes Go.ChangeAt Go.RowKit
set_option linter.unusedVariables false
set_option linter.unusedSimpArgs false
set_option maxRecDepth 20000

/-- one more row is gathered: an own list behind an alloc of its value, appended -/
theorem rows_more {w0 w1 w2 w5 : World} {A A0 A5 : Option Addr} {c c0 c5 k : Nat} {L : List Value} {ls : List (List Nat)} {l : List Nat} {n : Nat} (hb : Below w0.heap.size w0 w1) (hown : w1.ownsRow w0.heap.size 28 1 (.slice A0 k c0) k L) (hr : Rows w1 w0.heap.size L ls)
    (hb2 : Below w1.heap.size w1 w2) (ho : w2.ownsRow w1.heap.size 5 1 (.slice A n c) n (l.map byteV)) (hn : l.length = n) (hs : Small l)
    (ho5 : w5.ownsRow w0.heap.size 28 1 (.slice A5 (k + 1) c5) (k + 1) (L ++ [.slice A n c])) (hg5 : (w2.alloc (.cells #[.slice A n c] 28)).grownBy w5 (Value.slice A0 k c0).ownBlock) :
    Rows w5 w0.heap.size (L ++ [.slice A n c]) (ls ++ [l]) ∧ Below w0.heap.size w0 w5 := by
  subst hn
  have hag : Below w2.heap.size w2 (w2.alloc (.cells #[.slice A l.length c] 28)) := (Below.refl _ _).alloc (Nat.le_refl _) _
  have hown2 := kept_none (below_none hb2) hown
  have hown3 := kept_none (below_none hag) hown2
  have hr2 := hr.grown (below_none hb2)
  have hr3 := hr2.grown (below_none hag)
  have k5 : ∀ (u : Value) (m : List Nat), (w2.alloc (.cells #[.slice A l.length c] 28)).ownsRow w0.heap.size 5 1 u m.length (m.map byteV) → w5.ownsRow w0.heap.size 5 1 u m.length (m.map byteV) := fun u m hu => hu.kept hg5 (own_apart (by decide) hu hown3)
  refine ⟨(hr3.imp k5).snoc ⟨⟨_, _, rfl⟩, k5 _ _ (kept_none (below_none hag) (own_base hb.size ho)), hs⟩, ?_⟩
  exact below_own (v := .slice A0 k c0) ((hb.trans (hb2.mono hb.size)).alloc (Nat.le_trans hb.size hb2.size) _) hg5 hown3 (Nat.le_refl _) (by rw [World.size_alloc]; have := hb.size; have := hb2.size; omega)
section
variable {D : DevP} {w : World} {F : Nat → Prop} {gp : Nat} {s : Nat → Value} {lv : Value} {X : Nat → List Value}
set_option maxHeartbeats 1000000 in
theorem image_some (h : DevAt D w F gp s lv X) {N : Nat} (hG : D.good N) {n : Nat} (hn : n < 2) :
    Calls Try.prog 14 #[.pointer (some ⟨gp, 0, none⟩), .int .u8 n] w (RetRows (D.image n) w) := by
  have hf := file_any h n (by omega)
  rw [if_pos hn] at hf
  obtain ⟨i0, hi0, hz0, hz1, hz2⟩ := info_parts row_info
  obtain ⟨Aq, cq, es, -, -⟩ := own_form (h.file n hn).1
  rw [es] at hf
  have hD : D.image n = (D.f n).map Sect.last := if_pos hn
  rw [hD]
  have hm2 := (hG n hn).1
  have hcell : ∀ k (hk : k < (D.f n).length), ∃ g lw wv, Aq = some ⟨g, 0, none⟩ ∧ g < w.heap.size ∧ w.cell? ⟨g, k * 2, none⟩ = some lw ∧ w.cell? ⟨g, k * 2 + 1, none⟩ = some wv ∧ (∃ A5 m5 c5, wv = .slice A5 m5 c5) ∧ Txt w F lw (D.f n)[k].last := fun k hk => by
    obtain ⟨g, c', lw, wv, es', q0, q1, ht, hW, -, hg, -, -⟩ := sector_at h hn hk
    rw [es] at es'
    injection es' with e1 _ _
    obtain ⟨L, how, -, -⟩ := hW
    obtain ⟨A5, c5, rfl, -, -⟩ := own_form how
    rw [Nat.mul_comm 2 k] at q0 q1
    exact ⟨g, lw, _, e1, hg, q0, q1, ⟨_, _, _, rfl⟩, ht⟩
  have h128 : ∀ k (hk : k < (D.f n).length), (D.f n)[k].last.length = 128 := fun k hk => (hG.at_ hn hk).1
  clear h es hG hD
  generalize D.f n = ss at *
  go_enter Try.func14, Try.ntmps14
  go_wp2_with fail
  refine hf.mono ?_
  rintro e w1 ⟨rfl, rfl⟩
  go_wp2_with fail
  go_loopw [5, 12, 7] (fun v i _ wr => ∃ (k : Nat) (L : List Value), k ≤ ss.length ∧ i = .int .i64 k ∧ wr.ownsRow w.heap.size 28 1 v k L ∧ Rows wr w.heap.size L ((ss.map Sect.last).take k) ∧ Below w.heap.size w wr) (fun _ i _ _ => ss.length - (intOf i).toNat)
  case atStart => exact ⟨0, [], by omega, rfl, World.ownsRow_nil _ _ _ _, by rw [List.take_zero]; exact Rows.nil _ _, Below.refl _ _⟩
  case round =>
    clear hf
    obtain ⟨k, L, hk, rfl, hown, hr, hb⟩ := hrel
    obtain ⟨A0, c0, rfl, -, -⟩ := own_form hown
    rcases Nat.lt_or_ge k ss.length with hlt | hge
    · have e1 : decide ((k : Int) < (ss.length : Int)) = true := by rw [decide_eq_true_iff]; omega
      have e2 : (0 : Int) ≤ (k : Int) := by omega
      have e3 : (k : Int) < (ss.length : Int) := by omega
      obtain ⟨g, lw, wv, rfl, hgw, q0, q1, ⟨A6, m6, c6, rfl⟩, ht⟩ := hcell k hlt
      have hl := h128 k hlt
      have p0 := (hb.cell (p := ⟨g, k * 2, none⟩) hgw).trans q0
      have p1 := (hb.cell (p := ⟨g, k * 2 + 1, none⟩) hgw).trans q1
      have ht2 := ht.only (Only.of_below hb (fun _ => False)) fun _ _ _ z => z
      obtain ⟨A1, c1, rfl, hc1, hb1⟩ := ht2.bytes
      have htk : (ss.map Sect.last).take (k + 1) = (ss.map Sect.last).take k ++ [ss[k].last] := by rw [List.take_succ_eq_append_getElem (by simpa using hlt), List.getElem_map]
      generalize ss[k].last = x at *
      rw [hl] at p0
      have hcl : ∀ W, Below wr.heap.size wr W → Calls Try.prog 34 #[.slice A1 128 c1] W (RetBytes 5 x W) := fun W hW => by
        have := clone_any A1 c1 x wr.heap.size W (hb1.below hW) hW.size (by omega)
        rw [hl] at this
        exact this
      have HTK := Lib.hid htk
      clear htk hcell h128 ht ht2 hb1 q0 q1
      have hba : Below wr.heap.size wr (wr.alloc (.cells #[.slice A1 128 c1, .slice A6 m6 c6] 70)) := (Below.refl _ _).alloc (Nat.le_refl _) _
      go_wp2_with fail
      refine (hcl _ hba).mono ?_
      rintro e w2 ⟨A2, c2, rfl, ho2, hb2, hs2⟩
      rw [hl] at ho2 ⊢
      have hbw := hba.trans (hb2.mono hba.size)
      replace ho2 := own_base hba.size ho2
      have hown2 := kept_none (below_none hbw) hown
      have hwr := hb.size
      have hw2 := hbw.size
      clear hba hb2 hcl
      go_wp2_with (at_builtin; refine wpList_append_at2 rfl _ _ 22 22 rfl w.heap.size 28 i0 _ 24 Try.underlying22 Try.underlying22 hi0 hz0 hz1 hz2 rfl (.slice A0 k c0) k L rfl (hown2.alloc _) (w2.heap.size + 1) (some ⟨w2.heap.size, 0, none⟩) 1 1 [.slice A2 128 c2] rfl rfl (At.new w2 [.slice A2 128 c2] 28 (0, 0)) (by simp [Value.oneCell']) (by unfold maxLen; omega) (by omega) (by rw [World.size_alloc]; omega) ?_; intro A5 c5 w5 hown5 hg5 hat5; have HM := Lib.hid (rows_more hb hown hr hbw ho2 hl hs2 hown5 hg5); have ho5 := Lib.hid hown5; clear hown5 hat5)
      go_roundw
      case rel => exact ⟨k + 1, _, by omega, by go_num, ho5.out, by rw [HTK.out]; exact HM.out.1, HM.out.2⟩
      case measure => simp [intOf]; omega
    · obtain rfl : k = ss.length := by omega
      have e1 : decide ((ss.length : Int) < (ss.length : Int)) = false := by rw [decide_eq_false_iff_not]; omega
      rw [List.take_of_length_le (by simp)] at hr
      clear hcell h128
      go_wp2
      go_ret
      exact ⟨A0, c0, L, ret_slice (by simp), by simpa using hown, hr, hb⟩
theorem image_none (h : DevAt D w F gp s lv X) (n : Nat) (hn : n < 256) (hn2 : 2 ≤ n) :
    Calls Try.prog 14 #[.pointer (some ⟨gp, 0, none⟩), .int .u8 n] w (RetRows (D.image n) w) := by
  have hf := file_any h n hn
  rw [if_neg (by omega)] at hf
  have hD : D.image n = [] := if_neg (by omega)
  rw [hD]
  clear h
  go_enter Try.func14, Try.ntmps14
  go_wp2_with fail
  refine hf.mono ?_
  rintro e w1 ⟨rfl, rfl⟩
  go_wp2_with fail
  refine wp_loop_rounds 1 ?_
  rw [rounds_succ]
  go_wp2
  go_ret
  exact ⟨none, 0, [], rfl, World.ownsRow_nil _ _ _ _, Rows.nil _ _, Below.refl _ _⟩
end
theorem image_any {D : DevP} {w : World} {F : Nat → Prop} {p : Value} (h : IsDev D w F p) {N : Nat} (hG : D.good N) (n : Nat) (hn : n < 256) :
    Calls Try.prog 14 #[p, .int .u8 n] w (RetRows (D.image n) w) := by
  obtain ⟨gp, s, lv, X, rfl, h⟩ := h
  by_cases hh : n < 2
  · exact image_some h hG hh
  · exact image_none h n hn (by omega)
end Go.Proofs.Ytnbbneldbagohaa
