/- rec's law: the chapter's examples; what is heavy. Conditions: none. -/
import Derived.Test.YthbaoljghofkoaaRecN
namespace Go.Proofs.Ythbaoljghofkoaa
open Go.ChangeShapes Go.WideShapes Go.ChangeAt Go.RowKit
open NumMath
set_option linter.unusedVariables false
set_option linter.unusedSimpArgs false
set_option maxRecDepth 20000

def recB : RecP := ⟨1, 1, 0, 0, chgZ0, [], []⟩
theorem recB_at (w : World) (B : Nat) : RecAt w B recB memZ :=
  ⟨⟨Bytes.nil _ _ _, Bytes.nil _ _ _, Nat.le_refl _, Nat.le_refl _, ⟨by decide, by decide, (fun x hx => by cases hx), (fun x hx => by cases hx)⟩⟩, (fun j hj => absurd hj (by simp [recB])), (fun j hj => absurd hj (by simp [recB])),
    ⟨by decide, by decide, by decide, by decide, ⟨by decide, by decide, (fun x hx => by cases hx), (fun x hx => by cases hx)⟩, (fun x hx => by cases hx), (fun x hx => by cases hx)⟩⟩
theorem recB_ok : okR recB = true := by decide
theorem recB_len : (encL recB).length = 27 := by rw [encL_length]; rfl
set_option maxHeartbeats 4000000 in
theorem known_any (w : World) : Calls Try.prog 10 #[] w fun e w' => e = .returned (.bool true) ∧ Below w.heap.size w w' := by
  have ce := encode_any recB memZ 0 w (recB_at w 0) (Nat.zero_le _)
  have hf := (recB_at w 0).fits
  have hlen := recB_len
  have hdn : decN (encL recB) = 27 := by
    have := encL_decN recB_ok []
    rwa [List.append_nil, hlen] at this
  have hrd := readP_enc recB_ok hf
  have hsm := encL_small hf
  have hok := recB_ok
  unfold EncPost at ce
  rw [hlen, hok] at ce
  generalize encL recB = bs at *
  have hb26 : (bs.take 26).length = 26 := by rw [List.length_take]; omega
  have hb27 : bs.take 27 = bs := List.take_of_length_le (by omega)
  go_enter Try.func10, Try.ntmps10
  go_wp2_with fail
  refine ce.mono ?_
  rintro e w1 ⟨b1, ⟨-, A, c, rfl, ho⟩ | ⟨hno, -⟩⟩
  rotate_left
  · cases hno
  have hc : 27 ≤ c := own_cap' ho
  have hby := own_bytes ho hsm
  have c26 := decode_any (w := w1) (c := c) (hby.take 26) (by rw [hb26]; omega) (by omega)
  rw [hb26] at c26
  have s1 : (26 : Int) ≤ (c : Int) := by omega
  have s2 : (27 : Int) ≤ (c : Int) := by omega
  clear ce
  go_wp2_with fail
  refine c26.mono ?_
  rintro e w2 ⟨b2, ⟨-, rfl⟩ | ⟨hno, -⟩⟩
  rotate_left
  · rw [hb26] at hno
    omega
  have hb2 := b1.trans (b2.mono b1.size)
  have st := store_rec_new w2 recZ memZ
  have b3 := below_alloc w2 (.cells (recA recZ memZ) 31)
  have hb3 := hb2.trans (b3.mono hb2.size)
  have hby3 := (hby.below b2).below (b3.mono b2.size)
  have hz3 := Nat.le_trans b2.size b3.size
  clear c26 hb2 b3 b2 b1 ho hby
  go_upto_region 3 with (refine wpList_store_run rfl 31 (.tmp 3) (.tmp 22) _ _ rfl rfl rfl st ?_; clear st)
  generalize World.alloc w2 _ = w3 at *
  have c27 := decode_any (w := w3) (c := c) (hby3.more hz3) (by omega) (by omega)
  rw [hlen] at c27
  go_wp2_with fail
  refine c27.mono ?_
  rintro e w4 ⟨b4, ⟨hno, -⟩ | ⟨-, -, -, ⟨hno, -⟩ | ⟨r, m, hr, rfl, hF⟩⟩⟩
  · rw [hlen, hdn] at hno
    omega
  · rw [hdn, hb27, hrd] at hno
    cases hno
  rw [hdn]
  have st := store_rec_new w4 r m
  have FIN := Lib.hid (hb3.trans ((b4.trans ((below_alloc w4 (.cells (recA r m) 31)).mono b4.size)).mono hb3.size))
  clear c27 hb3 b4 hF hr hby3
  go_wp2_with (refine wpList_store_run rfl 31 (.tmp 6) (.tmp 28) _ _ rfl rfl rfl st ?_; clear st)
  go_ret
  exact ⟨rfl, FIN.out⟩
end Go.Proofs.Ythbaoljghofkoaa
