/- wal: what Append leaves in memory. Conditions: the log lies there. -/
import Derived.Test.YtkganajbilnanaaWWalN
import Derived.Test.YtkganajbilnanaaWRecB
namespace Go.Proofs.Ytkganajbilnanaa
open Go.ChangeShapes Go.WideShapes Go.ChangeAt Go.RowKit
open NumMath
set_option linter.unusedVariables false
set_option linter.unusedSimpArgs false
set_option maxRecDepth 20000

section
variable {L : LogP} {D : DevP} {w w1 w6 : World} {F G : Nat → Prop} {gl : Nat} {pd sv st : Value}
/-- one more place -/
theorem Lg.place (h : Lg L D w F G gl pd sv st) (hb : Below w.heap.size w w1) {A' : Option Addr} {c' k x : Nat} (hk : L.starts.length = k) (ho : w6.ownsRow 0 3 1 (.slice A' (k + 1) c') (k + 1) (placeV L.starts ++ [.int .i64 (x : Nat)])) (hg : w1.grownBy w6 st.ownBlock)
    (hat : (Value.slice A' (k + 1) c').ownBlock = st.ownBlock ∨ (Value.slice A' (k + 1) c').ownBlock = some w1.heap.size) :
    Blk w6 gl 75 (logV L.h pd L.strips L.slot sv st L.lasts) ∧
    Lg { L with starts := L.starts ++ [x] } D (w6.setCell ⟨gl, 8, none⟩ (.slice A' (k + 1) c')) F (grow G w (w6.setCell ⟨gl, 8, none⟩ (.slice A' (k + 1) c'))) gl pd sv (.slice A' (k + 1) c') ∧ Only G w (w6.setCell ⟨gl, 8, none⟩ (.slice A' (k + 1) c')) := by
  have h1 := h.below hb
  have o6 : Only (fun b => st.ownBlock = some b) w1 w6 := Only.of_grown hg fun b e => .inl e
  have nty : ∀ {b : Nat} {t : TypeId}, Ty w1 b t → t ≠ 3 → ¬ st.ownBlock = some b := fun hty hne e => hne (hty.uniq (own_ty h1.log.strt e))
  have k6 := h1.log.blk.only o6 (nty h1.log.blk.ty (by decide))
  have hs6 : (w6.setCell ⟨gl, 8, none⟩ (.slice A' (k + 1) c')).heap.size = w6.heap.size := by simp [World.setCell]
  have o7 : Only (fun b => st.ownBlock = some b ∨ b = gl) w1 (w6.setCell ⟨gl, 8, none⟩ (.slice A' (k + 1) c')) := (o6.mono fun b e => .inl (.inl e)).setCell (p := ⟨gl, 8, none⟩) (.inl (.inr rfl)) _
  have z1 := hb.size
  have z2 := o6.size
  have hO : Only G w (w6.setCell ⟨gl, 8, none⟩ (.slice A' (k + 1) c')) := (Only.of_below hb G).trans o7 fun b q => .inl (q.elim (fun e => h.log.strtG b e) fun e => by rw [e]; exact h.log.inG)
  have hgl6 : gl < w6.heap.size := k6.lt
  refine ⟨k6, ⟨h1.dev.only o7 fun b q q' => h.dis b q (q'.elim (fun e => h.log.strtG b e) fun e => by rw [e]; exact h.log.inG), ⟨k6.set_ 8 _, .inl h.log.inG, ?_, ?_, ?_⟩, ?_, ?_, ?_⟩, hO⟩
  · refine (h1.log.strm.only o7 fun b q hu e => ?_).mono fun b q => .inl q
    rcases e with e | e
    · exact nty (t := 5) (by obtain ⟨cs, f, z⟩ := hu; exact ⟨cs, f, z⟩) (by decide) e
    · subst e
      exact absurd (hu.uniq' h1.log.blk.ty) (by decide)
  · have e : placeV (L.starts ++ [x]) = placeV L.starts ++ [.int .i64 (x : Nat)] := by unfold placeV; rw [List.map_append]; rfl
    show World.ownsRow _ 0 3 1 _ (L.starts ++ [x]).length (placeV (L.starts ++ [x]))
    rw [e, List.length_append, hk]
    refine Only.own (S := fun b => b = gl) ((Only.refl (fun b => b = gl) w6).setCell (p := ⟨gl, 8, none⟩) (.inl rfl) _) ho fun b e' e'' => ?_
    subst e''
    exact absurd ((own_ty ho e').uniq k6.ty) (by decide)
  · intro b e
    rcases hat with q | q
    · exact .inl (h.log.strtG b (q.symm.trans e))
    · rw [q] at e
      injection e with e
      refine .inr ⟨by omega, ?_⟩
      rw [hs6]
      have := (ho.lt _ q).2
      omega
  · intro b q q'
    rcases q' with q' | q'
    · exact h.dis b q q'
    · have := h.hiF b q
      omega
  · intro b q
    have := h.hiF b q
    omega
  · intro b q
    rcases q with q | q
    · have := h.hiG b q
      omega
    · exact q.2
/-- the stream, longer -/
theorem Lg.stream (h : Lg L D w F G gl pd sv st) {A' : Option Addr} {c' n : Nat} {l : List Nat} (hl : Small l) (hn : (L.stream ++ l).length = n) (ho : w6.ownsRow 0 5 1 (.slice A' n c') n ((L.stream ++ l).map byteV)) (hg : Only (fun b => G b ∧ U8 w b) w w6)
    (hat : ∀ b, (Value.slice A' n c').ownBlock = some b → G b ∨ w.heap.size ≤ b) :
    Blk w6 gl 75 (logV L.h pd L.strips L.slot sv st L.lasts) ∧
    Lg { L with stream := L.stream ++ l } D (w6.setCell ⟨gl, 7, none⟩ (.slice A' n c')) F (grow G w (w6.setCell ⟨gl, 7, none⟩ (.slice A' n c'))) gl pd (.slice A' n c') st ∧ Only G w (w6.setCell ⟨gl, 7, none⟩ (.slice A' n c')) := by
  have nty : ∀ {b : Nat} {t : TypeId}, Ty w b t → t ≠ 5 → ¬ (G b ∧ U8 w b) := fun hty hne q => hne (q.2.uniq' hty).symm
  have k6 := h.log.blk.only hg (nty h.log.blk.ty (by decide))
  have hs6 : (w6.setCell ⟨gl, 7, none⟩ (.slice A' n c')).heap.size = w6.heap.size := by simp [World.setCell]
  have o7 : Only (fun b => (G b ∧ U8 w b) ∨ b = gl) w (w6.setCell ⟨gl, 7, none⟩ (.slice A' n c')) := (hg.mono fun b e => .inl (.inl e)).setCell (p := ⟨gl, 7, none⟩) (.inl (.inr rfl)) _
  have z2 := hg.size
  have hO : Only G w (w6.setCell ⟨gl, 7, none⟩ (.slice A' n c')) := o7.mono fun b q => .inl (q.elim (fun e => e.1) fun e => by rw [e]; exact h.log.inG)
  have hgl6 : gl < w6.heap.size := k6.lt
  have og : Only (fun b => b = gl) w6 (w6.setCell ⟨gl, 7, none⟩ (.slice A' n c')) := (Only.refl (fun b => b = gl) w6).setCell (p := ⟨gl, 7, none⟩) (.inl rfl) _
  have ho7 := og.own ho fun b e' e'' => by
    subst e''
    exact absurd ((own_ty ho e').uniq k6.ty) (by decide)
  have hG' : ∀ b, (Value.slice A' n c').ownBlock = some b → grow G w (w6.setCell ⟨gl, 7, none⟩ (.slice A' n c')) b := fun b e => by
    rcases hat b e with q | q
    · exact .inl q
    · exact .inr ⟨q, by rw [hs6]; exact (ho.lt b e).2⟩
  refine ⟨k6, ⟨h.dev.only o7 fun b q q' => h.dis b q (q'.elim (fun e => e.1) fun e => by rw [e]; exact h.log.inG), ⟨k6.set_ 7 _, .inl h.log.inG, Strm.own ho7 hn (small_append h.log.strm.1.bytes.choose_spec.choose_spec.2.2.2 hl) hG', ?_, fun b e => .inl (h.log.strtG b e)⟩, ?_, ?_, ?_⟩, hO⟩
  · refine o7.own h.log.strt fun b e q => ?_
    rcases q with q | q
    · exact nty (own_ty h.log.strt e) (by decide) q
    · subst q
      exact absurd ((own_ty h.log.strt e).uniq h.log.blk.ty) (by decide)
  · intro b q q'
    rcases q' with q' | q'
    · exact h.dis b q q'
    · have := h.hiF b q
      omega
  · intro b q
    have := h.hiF b q
    omega
  · intro b q
    rcases q with q | q
    · have := h.hiG b q
      omega
    · exact q.2
end
theorem addr_add (b o j : Nat) : (⟨b, o, none⟩ : Addr).add j = ⟨b, o + j, none⟩ := by
  unfold Addr.add
  split
  · subst_vars; rfl
  · rfl
/-- append of bytes onto a stream -/
theorem wpList_append_strm {w : World} {G : Nat → Prop} {v : Value} {l : List Nat} (h : Strm w G v l) {ops : Array Oper} {rest : List Oper} {o : Oper} {a : Act} {Q : Exit → Act → World → Prop} (hgd : o.guard = none) (s x : Operand)
    (ho : o.op = .call { callee := .builtin .append, args := #[s, x], argTypes := #[26, 26] }) (hs : a.eval s = v)
    (B : Nat) (A : Option Addr) (m c : Nat) (lb : List Nat) (hx : a.eval x = .slice A m c) (hm : lb.length = m) (hat : Bytes w B A lb) (hpos : 0 < m) (hsz : l.length + m ≤ 1000000)
    (hK : ∀ A' c' w', w'.ownsRow 0 5 1 (.slice A' (l.length + m) c') (l.length + m) ((l ++ lb).map byteV) → Only (fun b => G b ∧ U8 w b) w w' → (∀ b, (Value.slice A' (l.length + m) c').ownBlock = some b → G b ∨ w.heap.size ≤ b) →
      wpList Try.prog ops Q rest (a.put o.dst (.slice A' (l.length + m) c')) w') : wpList Try.prog ops Q (o :: rest) a w := by
  obtain ⟨i0, hi0, hz0, hz1, hz2⟩ := info_parts u8_info
  obtain ⟨ht, hown | ⟨Af, hf⟩⟩ := h
  · obtain ⟨ho1, ho2⟩ := hown
    refine wpList_append_at hgd s x 26 ho 0 5 i0 _ 1 Try.underlying26 hi0 hz0 hz1 hz2 rfl v l.length (l.map byteV) hs ho1 B A m c (lb.map byteV) hx (by rw [List.length_map]; exact hm) hat.1 (bytes_oneCell _) (by unfold maxLen; omega) (by omega) (Nat.zero_le _) ?_
    intro A' c' w' q1 q2 q3
    refine hK A' c' w' (by rw [List.map_append]; exact q1) (Only.of_grown q2 fun b e => .inl ⟨ho2 b e, by obtain ⟨cs, f, z⟩ := own_ty ho1 e; exact ⟨cs, f, z⟩⟩) fun b e => ?_
    rcases q3 with z | z
    · exact .inl (ho2 b (z.symm.trans e))
    · rw [z] at e
      injection e with e
      exact .inr (by omega)
  · obtain ⟨A1, c1, e1, hc1, hb1⟩ := ht.bytes
    rw [hf] at e1
    injection e1 with e1 _ e3
    subst e1
    obtain ⟨bx, ox, rfl, hbx, -⟩ := hat.1 0 (by rw [List.length_map]; omega)
    refine wpList_append_grows w hgd s x 26 ho 5 i0 _ 1 1 Try.underlying26 hi0 hz0 hz1 hz2 rfl (by omega) Af l.length l.length (l.map byteV) (hs.trans hf) (fun e => ?_) (by rw [List.length_map]; omega) (fun b e j u hu => ?_) ⟨bx, ox, none⟩ m c (lb.map byteV) hx (by rw [List.length_map]; omega) (fun j u hu => ?_) (bytes_oneCell _) (by omega) (by unfold maxLen; omega) (by omega) ?_
    · have : l = [] := by
        rcases Nat.eq_zero_or_pos l.length with z | z
        · exact List.eq_nil_of_length_eq_zero z
        · obtain ⟨b, o, e', _⟩ := hb1.1 0 (by rw [List.length_map]; omega)
          rw [e] at e'
          cases e'
      rw [this]
      exact ⟨rfl, rfl⟩
    · obtain ⟨hj, hju⟩ := List.getElem?_eq_some_iff.1 hu
      obtain ⟨b', o', e', _, hc⟩ := hb1.1 j hj
      rw [e] at e'
      injection e' with e'
      subst e'
      rw [addr_add, hc, hju]
    · obtain ⟨hj, hju⟩ := List.getElem?_eq_some_iff.1 hu
      obtain ⟨b', o', e', _, hc⟩ := hat.1 j hj
      injection e' with e'
      injection e' with e2 e3
      subst e2
      subst e3
      rw [addr_add, hc, hju]
    · intro v' w' q1 q2
      obtain ⟨A', c', rfl, -⟩ := own_form q1
      refine hK A' c' w' (by rw [List.map_append]; exact own_base (Nat.zero_le _) q1) (Only.of_grown q2 fun b e => by cases e) fun b e => .inr (q1.lt b e).1
/-- Append, plain -/
def appP (L : LogP) (r : RecP) (spare : Nat) : (Nat × Nat) × LogP :=
  if okR r = false then ((0, 61), L)
  else if L.strips * 127 < spare ∨ L.strips * 127 - spare < L.stream.length + (encL r).length then ((0, 80), L)
  else ((L.h.base + L.stream.length, 0), { L with starts := L.starts ++ [L.stream.length], stream := L.stream ++ encL r })
end Go.Proofs.Ytkganajbilnanaa
