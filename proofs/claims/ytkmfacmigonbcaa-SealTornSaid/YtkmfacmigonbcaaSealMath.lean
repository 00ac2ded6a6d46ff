/- Plain laws of sealing: what is sealed is opened. Conditions: as stated. -/
import Derived.Test.YtkmfacmigonbcaaSealA
import Derived.Test.YtkmfacmigonbcaaSealG
import Derived.Test.YtkmfacmigonbcaaSealO
namespace Go.Proofs.Ytkmfacmigonbcaa
open NumMath
set_option linter.unusedVariables false
set_option linter.unusedSimpArgs false

def sectS (st : Nat) (ck : List Nat) : List Nat := putF 8 st ++ ck ++ putF 8 st
theorem sectS_length {st : Nat} {ck : List Nat} (h : ck.length = 112) : (sectS st ck).length = 128 := by simp [sectS, putF_length, h]
theorem put8_back {st : Nat} (h : st < 18446744073709551616) : getL (putF 8 st) = st := by
  rw [getL_put]; exact Nat.mod_eq_of_lt (by simpa using h)
theorem sectS_markA {st : Nat} {ck : List Nat} (hs : st < 18446744073709551616) (h : ck.length = 112) : markA (sectS st ck) = st := by
  unfold markA
  rw [if_pos (sectS_length h)]
  have : (sectS st ck).take 8 = putF 8 st := by
    unfold sectS
    rw [List.append_assoc, List.take_append_of_le_length (by rw [putF_length]; omega), List.take_of_length_le (by rw [putF_length]; omega)]
  rw [this, put8_back hs]
theorem sectS_drop {st : Nat} {ck : List Nat} (h : ck.length = 112) : (sectS st ck).drop 120 = putF 8 st := by
  unfold sectS
  rw [List.drop_append_of_le_length (by simp [putF_length, h]), List.drop_of_length_le (by simp [putF_length, h]), List.nil_append]
theorem sectS_markB {st : Nat} {ck : List Nat} (hs : st < 18446744073709551616) (h : ck.length = 112) : markB (sectS st ck) = st := by
  unfold markB
  rw [if_pos (sectS_length h), sectS_drop h, List.take_of_length_le (by rw [putF_length]; omega), put8_back hs]
theorem sectS_body {st : Nat} {ck : List Nat} (h : ck.length = 112) : bodyS (sectS st ck) = ck := by
  unfold bodyS sectS
  rw [List.append_assoc, List.drop_append_of_le_length (by rw [putF_length]; omega), List.drop_of_length_le (by rw [putF_length]; omega), List.nil_append, List.take_append_of_le_length (by omega), List.take_of_length_le (by omega)]
theorem chunk112 {b : List Nat} (h : b.length = 448) {k : Nat} (hk : k < 4) : (chunkOf b k).length = 112 := by rw [chunkOf_length, h]; omega
theorem sealOf_eq {b : List Nat} (h : b.length = 448) (st : Nat) : sealOf b st = [sectS st (chunkOf b 0), sectS st (chunkOf b 1), sectS st (chunkOf b 2), sectS st (chunkOf b 3)] := if_pos h
theorem chunks_flat {b : List Nat} (h : b.length = 448) : chunkOf b 0 ++ chunkOf b 1 ++ chunkOf b 2 ++ chunkOf b 3 = b := by
  unfold chunkOf
  have e : ∀ k, ((b.drop (112 * k)).take 112) ++ b.drop (112 * (k + 1)) = b.drop (112 * k) := fun k => by
    rw [show 112 * (k + 1) = 112 * k + 112 by omega, ← List.drop_drop, List.take_append_drop]
  have e3 : (b.drop (112 * 3)).take 112 = b.drop (112 * 3) := List.take_of_length_le (by simp; omega)
  rw [e3, List.append_assoc, List.append_assoc, e 2, e 1, e 0]
  rfl
theorem seal_goodS {st : Nat} {ck : List Nat} (hs : st < 18446744073709551616) (h : ck.length = 112) : goodS st (sectS st ck) = true := by
  unfold goodS
  rw [sectS_length h, sectS_markA hs h, sectS_markB hs h]
  simp
/-- any four sectors of one stamp open -/
theorem open_four {st : Nat} (hs : st < 18446744073709551616) {a b c d : List Nat} (ha : a.length = 112) (hb : b.length = 112) (hc : c.length = 112) (hd : d.length = 112) :
    openOk [sectS st a, sectS st b, sectS st c, sectS st d] = true ∧ openN [sectS st a, sectS st b, sectS st c, sectS st d] = st ∧ openB [sectS st a, sectS st b, sectS st c, sectS st d] = a ++ b ++ c ++ d := by
  have hf : firstS [sectS st a, sectS st b, sectS st c, sectS st d] = st := sectS_markA hs ha
  have ho : openOk [sectS st a, sectS st b, sectS st c, sectS st d] = true := by
    unfold openOk
    rw [hf]
    simp [seal_goodS hs ha, seal_goodS hs hb, seal_goodS hs hc, seal_goodS hs hd]
  refine ⟨ho, ?_, ?_⟩
  · unfold openN; rw [if_pos ho, hf]
  · unfold openB; rw [if_pos ho]
    simp [flS, sectS_body ha, sectS_body hb, sectS_body hc, sectS_body hd]
theorem great_four {st : Nat} (hs : st < 18446744073709551616) {a b c d : List Nat} (ha : a.length = 112) (hb : b.length = 112) (hc : c.length = 112) (hd : d.length = 112) :
    greatL [sectS st a, sectS st b, sectS st c, sectS st d] = st := by
  simp [greatL, sectS_markA hs ha, sectS_markB hs ha, sectS_markA hs hb, sectS_markB hs hb, sectS_markA hs hc, sectS_markB hs hc, sectS_markA hs hd, sectS_markB hs hd]
theorem seal_open {b : List Nat} (h : b.length = 448) {st : Nat} (hs : st < 18446744073709551616) : openOk (sealOf b st) = true ∧ openN (sealOf b st) = st ∧ openB (sealOf b st) = b ∧ greatL (sealOf b st) = st := by
  rw [sealOf_eq h]
  obtain ⟨h1, h2, h3⟩ := open_four hs (chunk112 h (show 0 < 4 by omega)) (chunk112 h (show 1 < 4 by omega)) (chunk112 h (show 2 < 4 by omega)) (chunk112 h (show 3 < 4 by omega))
  exact ⟨h1, h2, h3.trans (chunks_flat h), great_four hs (chunk112 h (by omega)) (chunk112 h (by omega)) (chunk112 h (by omega)) (chunk112 h (by omega))⟩
theorem sealOf_length {b : List Nat} (h : b.length = 448) (st : Nat) : (sealOf b st).length = 4 := by rw [sealOf_eq h]; rfl
theorem sealOf_each {b : List Nat} (h : b.length = 448) (st : Nat) : ∀ l ∈ sealOf b st, l.length = 128 := by
  rw [sealOf_eq h]
  intro l hl
  simp only [List.mem_cons, List.not_mem_nil, or_false] at hl
  rcases hl with rfl | rfl | rfl | rfl <;> exact sectS_length (chunk112 h (by omega))

set_option maxRecDepth 100000
/-- the chapter's example -/
def zrow (x : Bool) : List Nat := List.replicate 127 0 ++ [if x then 1 else 0]
theorem seal_zero : sealOf (List.replicate 448 0) 0 = [zrow false, zrow false, zrow false, zrow false] := by rfl
theorem zrow_torn (p q r : Bool) : openOk [zrow p, zrow q, zrow r, zrow true] = false ∧ greatL [zrow p, zrow q, zrow r, zrow true] = 72057594037927936 := by
  cases p <;> cases q <;> cases r <;> exact ⟨by rfl, by rfl⟩
theorem zrow_set (x : Bool) : (zrow x).set 127 1 = zrow true := by cases x <;> rfl
end Go.Proofs.Ytkmfacmigonbcaa
