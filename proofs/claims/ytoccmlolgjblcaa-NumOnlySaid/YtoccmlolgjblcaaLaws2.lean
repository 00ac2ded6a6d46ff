/- Two more laws of chapter 1, walked: what is laid is read, what is turned is turned back. Conditions: none beyond what the rows say. -/
import Derived.Test.YtoccmlolgjblcaaLaws
namespace Go.Proofs.Ytoccmlolgjblcaa
open Go.ChangeShapes Go.WideShapes Go.ChangeAt Go.RowKit
open NumMath
set_option linter.unusedVariables false
set_option linter.unusedSimpArgs false
set_option maxRecDepth 20000

theorem unfold_fold {v : Int} (h1 : -9223372036854775808 ≤ v) (h2 : v ≤ 9223372036854775807) : unfoldI (foldN v) = v := by
  have := foldN_is v
  unfold unfoldI
  split at this <;> split <;> omega
theorem fold_unfold {n : Nat} (h : n < 18446744073709551616) : foldN (unfoldI n) = n := by
  have h1 := foldN_is (unfoldI n)
  have h2 : unfoldI n = if n % 2 = 0 then ((n / 2 : Nat) : Int) else -((n / 2 : Nat) : Int) - 1 := rfl
  generalize unfoldI n = u at *
  split at h2 <;> split at h1 <;> omega
theorem own_cap {w : World} {base : Nat} {e : TypeId} {size : Nat} {A : Option Addr} {n c m : Nat} {xs : List Value} (h : w.ownsRow base e size (.slice A n c) m xs) : n ≤ c := by
  obtain ⟨_, c', e', h1, _⟩ := own_form h
  injection e' with _ e2 e3
  omega
theorem get_put (n m : Nat) (hm : m ≤ 8) : getL ((putF m n).take 8) = n % 256 ^ m := by
  rw [List.take_of_length_le (by rw [putF_length]; exact hm), getL_put]

theorem numBack_walk (a0 : Int) (a1 : Int) (a2 : Int) (w0 : (Lit.int .u64 a0).wf = true) (w1 : (Lit.int .u8 a1).wf = true) (w2 : (Lit.int .i64 a2).wf = true) (w : World) :
    Calls Try.prog 10 #[.int .u64 a0, .int .u8 a1, .int .i64 a2] w fun e w' => e = .returned (.bool true) ∧ Below w.heap.size w w' := by
  obtain ⟨n, rfl, hn⟩ := nat_u64 w0
  obtain ⟨x, rfl, hx⟩ := nat_u8 w1
  obtain ⟨v1, v2⟩ := in_i64 w2
  clear w0 w1 w2
  obtain ⟨m, hm, hm1, hm2⟩ : ∃ m : Nat, 1 + (x : Int) % 8 = (m : Int) ∧ 1 ≤ m ∧ m ≤ 8 := ⟨1 + x % 8, by omega, by omega, by omega⟩
  obtain ⟨q, hq, hq1⟩ : ∃ q : Nat, q = n % 256 ^ m ∧ q ≤ n := ⟨_, rfl, Nat.mod_le _ _⟩
  obtain ⟨P, hP⟩ : ∃ P : Nat, P = 2 ^ (8 * m) := ⟨_, rfl⟩
  have hlow : m < 8 → IntKind.u64.wrap (2 ^ (8 * m)) = (P : Int) ∧ 1 ≤ P ∧ P < 18446744073709551616 ∧ (n : Int) % (P : Int) = (q : Int) := fun h8 => by
    have hp : 2 ^ (8 * m) < 18446744073709551616 := by
      have : 2 ^ (8 * m) ≤ 2 ^ 56 := Nat.pow_le_pow_right (by omega) (by omega)
      omega
    have hp0 : 0 < 2 ^ (8 * m) := Nat.two_pow_pos _
    have e1 : ((2 ^ (8 * m) : Nat) : Int) = (2 : Int) ^ (8 * m) := Int.natCast_pow 2 _
    refine ⟨by rw [IntKind.wrap_u64, ← e1, hP]; omega, by omega, by omega, ?_⟩
    rw [hq, pow256, hP, Int.natCast_emod]
  have hhigh : m = 8 → q = n := fun h8 => by
    subst h8
    rw [hq, show 256 ^ 8 = 18446744073709551616 from rfl, Nat.mod_eq_of_lt hn]
  have HG := Lib.hid ((get_put n m hm2).trans hq.symm)
  have hpb : putB n m = putF m n := by unfold putB; rw [if_pos (by omega)]; rfl
  have HPB := Lib.hid hpb
  clear hq hpb
  have hq2 : q < 18446744073709551616 := by omega
  have HU := Lib.hid (unfold_fold v1 v2)
  have HF := Lib.hid (fold_unfold hn)
  have hui := unfoldI_in hn
  have hfl := foldN_lt v1 v2
  have hput : ∀ W, Calls Try.prog 20 #[.int .u64 n, .int .i64 m] W (RetBytes 5 (putF m n) W) := fun W => by
    have := put_any n m W hn (by omega) (by omega)
    rw [HPB.out] at this
    exact this
  have HPUT := Lib.hid hput
  have hpl := putF_length m n
  have HPL := Lib.hid hpl
  clear hput hpl hP
  rcases (show m < 8 ∨ m = 8 from by omega) with h8 | h8
  · obtain ⟨hl1, hl2, hl3, hl4⟩ := hlow h8
    clear hlow hhigh
    go_enter Try.func10, Try.ntmps10
    go_wp2_with fail
    refine (known_any _).mono ?_
    rintro e w1 ⟨rfl, hb1⟩
    go_wp2_with fail
    refine (HPUT.out _).mono ?_
    rintro e w2 ⟨A2, c2, rfl, hown2, hb2, hs2⟩
    have hg := get_any A2 c2 (putF m n) w2.heap.size w2 (own_bytes hown2 hs2) (by rw [HPL.out]; omega) (own_cap hown2)
    rw [HG.out] at hg
    have HGET := Lib.hid hg
    clear hg hown2 hs2
    rw [HPL.out] at HGET ⊢
    go_wp2_with fail
    refine (HGET.out).mono ?_
    rintro e w' ⟨rfl, rfl⟩
    go_wp2_with fail
    refine (HPUT.out _).mono ?_
    rintro e w3 ⟨A3, c3, rfl, hown3, hb3, hs3⟩
    rw [HPL.out]
    clear hown3 hs3
    go_wp2_with fail
    refine (fold_any _ _ v1 v2).mono ?_
    rintro e w' ⟨rfl, rfl⟩
    go_wp2_with fail
    refine (unfold_any _ _ hfl).mono ?_
    rintro e w' ⟨rfl, rfl⟩
    rw [HU.out]
    go_wp2_with fail
    refine (unfold_any _ _ hn).mono ?_
    rintro e w' ⟨rfl, rfl⟩
    go_wp2_with fail
    refine (fold_any _ _ hui.1 hui.2).mono ?_
    rintro e w' ⟨rfl, rfl⟩
    rw [HF.out]
    go_wp2_with fail
    go_ret
    exact ⟨rfl, hb1.trans ((hb2.mono hb1.size).trans (hb3.mono (by have := hb1.size; have := hb2.size; omega)))⟩
  · have hl := hhigh h8
    subst hl
    subst h8
    clear hlow hhigh
    go_enter Try.func10, Try.ntmps10
    go_wp2_with fail
    refine (known_any _).mono ?_
    rintro e w1 ⟨rfl, hb1⟩
    go_wp2_with fail
    refine (HPUT.out _).mono ?_
    rintro e w2 ⟨A2, c2, rfl, hown2, hb2, hs2⟩
    have hg := get_any A2 c2 (putF 8 q) w2.heap.size w2 (own_bytes hown2 hs2) (by rw [HPL.out]; omega) (own_cap hown2)
    rw [HG.out] at hg
    have HGET := Lib.hid hg
    clear hg hown2 hs2
    rw [HPL.out] at HGET ⊢
    go_wp2_with fail
    refine (HGET.out).mono ?_
    rintro e w' ⟨rfl, rfl⟩
    go_wp2_with fail
    refine (HPUT.out _).mono ?_
    rintro e w3 ⟨A3, c3, rfl, hown3, hb3, hs3⟩
    rw [HPL.out]
    clear hown3 hs3
    go_wp2_with fail
    refine (fold_any _ _ v1 v2).mono ?_
    rintro e w' ⟨rfl, rfl⟩
    go_wp2_with fail
    refine (unfold_any _ _ hfl).mono ?_
    rintro e w' ⟨rfl, rfl⟩
    rw [HU.out]
    go_wp2_with fail
    refine (unfold_any _ _ hn).mono ?_
    rintro e w' ⟨rfl, rfl⟩
    go_wp2_with fail
    refine (fold_any _ _ hui.1 hui.2).mono ?_
    rintro e w' ⟨rfl, rfl⟩
    rw [HF.out]
    go_wp2_with fail
    go_ret
    exact ⟨rfl, hb1.trans ((hb2.mono hb1.size).trans (hb3.mono (by have := hb1.size; have := hb2.size; omega)))⟩
end Go.Proofs.Ytoccmlolgjblcaa
