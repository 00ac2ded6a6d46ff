/- The contract of LentBlocks. Conditions: what is handed in reads as bytes. -/
import Derived.Test.YtnbbneldbagohaaDiskWrite
import Derived.Test.YtnbbneldbagohaaBlocks
namespace Go.Proofs.Ytnbbneldbagohaa
open Go.ChangeShapes Go.WideShapes Go.ChangeAt Go.RowKit
set_option linter.unusedVariables false
set_option linter.unusedSimpArgs false
set_option maxRecDepth 20000

theorem rows_more' {w wr w2 w5 : World} {L : List Value} {k c0 c2 c5 m : Nat} {A0 A2 A5 : Option Addr} {x : List Nat} {ls : List (List Nat)} (hb : Below w.heap.size w wr) (hown : wr.ownsRow w.heap.size 28 1 (.slice A0 k c0) k L) (hr : Rows wr w.heap.size L ls)
    (hb2 : Below wr.heap.size wr w2) (ho2 : w2.ownsRow wr.heap.size 5 1 (.slice A2 m c2) m (x.map byteV)) (hm : x.length = m) (hs2 : Small x)
    (hown5 : w5.ownsRow w.heap.size 28 1 (.slice A5 (k + 1) c5) (k + 1) (L ++ [.slice A2 m c2])) (hg5 : (w2.alloc (.cells #[.slice A2 m c2] 28)).grownBy w5 (Value.slice A0 k c0).ownBlock) :
    Rows w5 w.heap.size (L ++ [.slice A2 m c2]) (ls ++ [x]) ∧ Below w.heap.size w w5 := by
  subst hm
  have hwr := hb.size
  have hown2 := kept_none (below_none hb2) hown
  have hba := (hb.trans (hb2.mono hwr)).alloc (Nat.le_trans hwr hb2.size) (.cells #[.slice A2 x.length c2] 28)
  have ho2a := kept_none (below_none ((Below.refl w2.heap.size w2).alloc (Nat.le_refl _) (.cells #[.slice A2 x.length c2] 28))) ho2
  have hra := (hr.imp fun v l h => kept_none (below_none hb2) h).imp fun v l h => kept_none (below_none ((Below.refl w2.heap.size w2).alloc (Nat.le_refl _) (.cells #[.slice A2 x.length c2] 28))) h
  have hown2a := hown2.alloc (.cells #[.slice A2 x.length c2] 28)
  refine ⟨?_, hba.grown hg5 (by have := hba.size; omega) (fun k e => (hown.lt k e).1)⟩
  refine (hra.imp fun v l h => h.kept hg5 (own_apart (by decide) h hown2a)).snoc ?_
  exact ⟨⟨A2, c2, rfl⟩, own_base hwr (ho2a.kept hg5 (own_apart (by decide) ho2a hown2a)), hs2⟩
set_option maxHeartbeats 2000000 in
theorem lentBlocks_any (A : Option Addr) (c : Nat) (L : List Value) (ls : List (List Nat)) (B : Nat) (w : World) (h1 : At w B A L) (hr0 : Reads w B L ls) (hB : B ≤ w.heap.size) (hn : ls.length ≤ 1000) (hl : ∀ l ∈ ls, l.length ≤ 1000) :
    Calls Try.prog 29 #[.slice A ls.length c] w (RetRows ls w) := by
  obtain ⟨i0, hi0, hz0, hz1, hz2⟩ := info_parts row_info
  go_enter Try.func29, Try.ntmps29
  go_wp2_with fail
  go_loopw [3, 4] (fun v i wr => ∃ (k : Nat) (L' : List Value), k ≤ ls.length ∧ i = .int .i64 k ∧ wr.ownsRow w.heap.size 28 1 v k L' ∧ Rows wr w.heap.size L' (ls.take k) ∧ Below w.heap.size w wr) (fun _ i _ => ls.length - (intOf i).toNat)
  case atStart => exact ⟨0, [], by omega, rfl, World.ownsRow_nil _ _ _ _, by rw [List.take_zero]; exact Rows.nil _ _, Below.refl _ _⟩
  case round =>
    obtain ⟨k, L', hk, rfl, hown, hr, hb⟩ := hrel
    obtain ⟨A0, c0, rfl, -, -⟩ := own_form hown
    rcases Nat.lt_or_ge k ls.length with hlt | hge
    · have e1 : decide ((k : Int) < (ls.length : Int)) = true := by rw [decide_eq_true_iff]; omega
      have e2 : (0 : Int) ≤ (k : Int) := by omega
      have e3 : (k : Int) < (ls.length : Int) := by omega
      obtain ⟨A1, c1, ev, -, b1⟩ := hr0.2 k _ (List.getElem?_eq_getElem hlt)
      obtain ⟨b, o, rfl, hbB, q1⟩ := (h1.below (hb.mono hB)) k (by rw [hr0.1]; exact hlt)
      rw [← List.getElem?_eq_getElem, ev] at q1
      have htk : ls.take (k + 1) = ls.take k ++ [ls[k]] := List.take_succ_eq_append_getElem hlt
      have hx := hl _ (List.getElem_mem hlt)
      have b2 := b1.below (hb.mono hB)
      generalize ls[k] = x at *
      have hcl := lent_any A1 c1 x B wr b2 (by omega)
      have hs := b1.2
      have HTK := Lib.hid htk
      have hwr := hb.size
      clear htk hr0 h1 ev b1 hl b2
      go_wp2_with fail
      refine hcl.mono ?_
      rintro e w2 ⟨A2, c2, rfl, ho2, hb2⟩
      have hown2 := kept_none (below_none hb2) hown
      have hw2 := hb2.size
      clear hcl
      obtain ⟨m, hm⟩ : ∃ m, x.length = m := ⟨_, rfl⟩
      rw [hm] at ho2 ⊢
      have HMM := Lib.hid hm
      clear hm
      go_wp2_with (at_builtin; refine wpList_append_at2 rfl _ _ 22 22 rfl w.heap.size 28 i0 _ 24 Try.underlying22 Try.underlying22 hi0 hz0 hz1 hz2 rfl (.slice A0 k c0) k L' rfl (hown2.alloc _) (w2.heap.size + 1) (some ⟨w2.heap.size, 0, none⟩) 1 1 [.slice A2 m c2] rfl rfl (At.new w2 [.slice A2 m c2] 28 (0, 0)) (by simp [Value.oneCell']) (by unfold maxLen; omega) (by omega) (by rw [World.size_alloc]; omega) ?_; intro A5 c5 w5 hown5 hg5 hat5; have HM := Lib.hid (rows_more' hb hown hr hb2 ho2 HMM.out hs hown5 hg5); have ho5 := Lib.hid hown5; clear hown5 hat5)
      go_roundw
      case rel => exact ⟨k + 1, _, by omega, by go_num, ho5.out, by rw [HTK.out]; exact HM.out.1, HM.out.2⟩
      case measure => simp [intOf]; omega
    · obtain rfl : k = ls.length := by omega
      have e1 : decide ((ls.length : Int) < (ls.length : Int)) = false := by rw [decide_eq_false_iff_not]; omega
      rw [List.take_length] at hr
      clear hr0 h1 hl
      go_wp2
      go_ret
      exact ⟨A0, c0, L', rfl, hown, hr, hb⟩
end Go.Proofs.Ytnbbneldbagohaa
