/- Two more laws of chapter 2, walked: lists one behind the other. Conditions: none beyond what the rows say. -/
import Derived.Test.YtcffkfjkjclehaaLaws
namespace Go.Proofs.Ytcffkfjkjclehaa
open Go.ChangeShapes Go.WideShapes Go.ChangeAt Go.RowKit
open CrcMath

theorem u8_info : (Try.prog.info? 5).map (fun i => (i.zero, i.size, i.bytes)) = some (some (.int .u8 0), 1, 1) := by kernel_rfl

theorem sum_list (ls : List (Option Addr × Nat × List Nat)) (B : Nat) (w : World) (h : ∀ x ∈ ls, Bytes w B x.1 x.2.2 ∧ x.2.2.length ≤ 100000) (hB : B ≤ w.heap.size) (hl : ls.length ≤ 100000) :
    Calls Try.prog 8 #[.slice (some ⟨w.heap.size, 0, none⟩) ls.length ls.length] (w.alloc (.cells (ls.map sliceV).toArray 22)) fun e w' => e = .returned (.int .u32 (sumFrom 0 (allOf ls) : Nat)) ∧ w.alloc (.cells (ls.map sliceV).toArray 22) = w' :=
  sum_any (some ⟨w.heap.size, 0, none⟩) ls.length ls (w.heap.size + 1) (w.alloc (.cells (ls.map sliceV).toArray 22)) (At.new w (ls.map sliceV) 22 (0, 0))
    (fun x hx => ⟨((h x hx).1.alloc hB _).more (by omega), (h x hx).2⟩) hl

theorem sum_two (A A' : Option Addr) (c c' : Nat) (l l' : List Nat) (B : Nat) (w : World) (h : Bytes w B A l) (h' : Bytes w B A' l') (hB : B ≤ w.heap.size) (hl : l.length ≤ 100000) (hl' : l'.length ≤ 100000) :
    Calls Try.prog 8 #[.slice (some ⟨w.heap.size, 0, none⟩) 2 2] (w.alloc (.cells #[.slice A l.length c, .slice A' l'.length c'] 22)) fun e w' => e = .returned (.int .u32 (sumFrom 0 (l ++ l') : Nat)) ∧ w.alloc (.cells #[.slice A l.length c, .slice A' l'.length c'] 22) = w' := by
  have := sum_list [(A, c, l), (A', c', l')] B w (by simp [h, h', hl, hl']) hB (by simp)
  simpa [allOf, sliceV] using this
theorem sum_four (A A' A2 A3 : Option Addr) (c c' c2 c3 : Nat) (l l' l2 l3 : List Nat) (B : Nat) (w : World) (h : Bytes w B A l) (h' : Bytes w B A' l') (h2 : Bytes w B A2 l2) (h3 : Bytes w B A3 l3) (hB : B ≤ w.heap.size) (hl : l.length ≤ 100000) (hl' : l'.length ≤ 100000) (hl2 : l2.length ≤ 100000) (hl3 : l3.length ≤ 100000) :
    Calls Try.prog 8 #[.slice (some ⟨w.heap.size, 0, none⟩) 4 4] (w.alloc (.cells #[.slice A l.length c, .slice A' l'.length c', .slice A2 l2.length c2, .slice A3 l3.length c3] 22)) fun e w' => e = .returned (.int .u32 (sumFrom 0 (l ++ (l' ++ (l2 ++ l3))) : Nat)) ∧ w.alloc (.cells #[.slice A l.length c, .slice A' l'.length c', .slice A2 l2.length c2, .slice A3 l3.length c3] 22) = w' := by
  have := sum_list [(A, c, l), (A', c', l'), (A2, c2, l2), (A3, c3, l3)] B w (by simp [h, h', h2, h3, hl, hl', hl2, hl3]) hB (by simp)
  simpa [allOf, sliceV] using this

set_option maxHeartbeats 400000 in
theorem crcParts_walk (a0 : Option Addr) (len0 cap0 : Nat) (z0 : List Int) (a1 : Option Addr) (len1 cap1 : Nat) (z1 : List Int) (a2 : Int) (w : World) (w0 : IsRow .u8 w a0 len0 cap0 z0) (w1 : IsRow .u8 w a1 len1 cap1 z1) (w2 : (Lit.int .u8 a2).wf = true) :
    Calls Try.prog 4 #[.slice a0 len0 cap0, .slice a1 len1 cap1, .int .u8 a2] w fun e w' => e = .returned (.bool true) ∧ Below w.heap.size w w' := by
  obtain ⟨hlc, l, rfl, hl⟩ := w0.bytes
  obtain ⟨hmc, m, rfl, hm⟩ := w1.bytes
  obtain ⟨x, rfl, hx⟩ := nat_u8 w2
  clear w0 w1 w2 z0 z1 hlc hmc
  obtain ⟨i0, hi0, hz0, hz1, hz2⟩ := info_parts u8_info
  rcases Nat.lt_or_ge 2000 l.length with hlt | hge
  · go_enter Try.func4, Try.ntmps4
    go_wp2
    go_ret
    exact ⟨rfl, Below.refl _ _⟩
  rcases Nat.lt_or_ge 2000 m.length with hlt | hge2
  · go_enter Try.func4, Try.ntmps4
    go_wp2
    go_ret
    exact ⟨rfl, Below.refl _ _⟩
  have hs : sumFrom 0 (l ++ m) < 4294967296 := sumFrom_lt _ (by omega) (small_append hl.2 hm.2)
  have HN := Lib.hid (sumFrom_snoc 0 (l ++ m) x)
  have hxs : Small [x] := by unfold Small; simpa using hx
  go_enter Try.func4, Try.ntmps4
  go_wp2_with (first
    | (at_builtin; refine wpList_append_at rfl (.tmp 17) (.tmp 18) 22 rfl w.heap.size 5 i0 _ 1 Try.underlying22 hi0 hz0 hz1 hz2 rfl (.slice none 0 0) 0 [] rfl (World.ownsRow_nil _ _ _ _) w.heap.size a0 l.length cap0 (l.map byteV) rfl (by simp) hl.1 (bytes_oneCell _) (by unfold maxLen; omega) (by omega) (Nat.le_refl _) ?_; intro A1 c1 w1 hown1 hg1 hat1; simp only [Nat.zero_add, List.nil_append] at hown1; have hb1 : Below w.heap.size w w1 := (Below.refl _ _).grown hg1 (Nat.le_refl _) (by simp [Value.ownBlock]))
    | (at_builtin; refine wpList_append_at rfl (.tmp 20) (.tmp 21) 22 rfl w.heap.size 5 i0 _ 1 Try.underlying22 hi0 hz0 hz1 hz2 rfl (.slice A1 l.length c1) l.length (l.map byteV) rfl hown1 w.heap.size a1 m.length cap1 (m.map byteV) rfl (by simp) (hm.below hb1).1 (bytes_oneCell _) (by unfold maxLen; omega) (by omega) hb1.size ?_; intro A2 c2 w2 hown2 hg2 hat2; have hb2 : Below w.heap.size w w2 := below_own hb1 hg2 hown1 (Nat.le_refl _) hb1.size))
  rw [← List.map_append] at hown2
  have hall : Bytes w2 w2.heap.size A2 (l ++ m) := ⟨At.own hown2, small_append hl.2 hm.2⟩
  have hl2 := hl.below hb2
  have hm2 := hm.below hb2
  clear hown1 hg1 hat1 hg2 hat2 hb1 hown2
  refine (sum_two _ _ _ _ l m _ w2 hl2 hm2 hb2.size (by omega) (by omega)).mono ?_
  rintro e w3 ⟨rfl, hw3⟩
  have hb3 : Below w2.heap.size w2 w3 := by rw [← hw3]; exact (Below.refl _ _).alloc (Nat.le_refl _) _
  have hl3 := (hl2.more hb2.size).below hb3
  have hm3 := (hm2.more hb2.size).below hb3
  have ha3 := hall.below hb3
  have hs3 := hb3.size
  clear hw3 hl2 hm2 hall
  go_wp2_with fail
  refine (known_any _).mono ?_
  rintro e w4 ⟨rfl, hb4⟩
  have hl4 := (hl3.more hs3).below hb4
  have hm4 := (hm3.more hs3).below hb4
  have ha4 := (ha3.more hs3).below hb4
  have hs4 := hb4.size
  clear hl3 hm3 ha3
  go_wp2_with fail
  have h1 := sum_one A2 c2 (l ++ m) _ w4 ha4 hs4 (by rw [List.length_append]; omega)
  rw [List.length_append] at h1
  refine h1.mono ?_
  clear h1
  rintro e w5 ⟨rfl, hw5⟩
  have hb5 : Below w4.heap.size w4 w5 := by rw [← hw5]; exact (Below.refl _ _).alloc (Nat.le_refl _) _
  clear hw5
  go_wp2_with fail
  have hs5 := hb5.size
  have hl5 : Bytes w5 w5.heap.size a0 l := ((hl4.more hs4).below hb5).more hs5
  have hm5 : Bytes w5 w5.heap.size a1 m := ((hm4.more hs4).below hb5).more hs5
  have hx6 : Bytes (w5.alloc (.cells #[.int .u8 (x : Int)] 5)) (w5.heap.size + 1) (some ⟨w5.heap.size, 0, none⟩) [x] := Bytes.new w5 [x] 5 (0, 0) hxs
  have h2 := sum_four a0 none a1 (some ⟨w5.heap.size, 0, none⟩) cap0 0 cap1 1 l [] m [x] (w5.heap.size + 1) (w5.alloc (.cells #[.int .u8 (x : Int)] 5))
    ((hl5.alloc (Nat.le_refl _) _).more (by omega)) (Bytes.nil _ _ _) ((hm5.alloc (Nat.le_refl _) _).more (by omega)) hx6 (by simp) (by omega) (by simp) (by omega) (by simp)
  rw [World.size_alloc] at h2
  refine h2.mono ?_
  clear h2
  rintro e w6 ⟨rfl, hw6⟩
  have hb6 : Below w5.heap.size w5 w6 := by rw [← hw6]; exact ((Below.refl _ _).alloc (Nat.le_refl _) _).alloc (by simp) _
  clear hw6
  have he : l ++ ([] ++ (m ++ [x])) = l ++ m ++ [x] := by simp
  rw [he, HN.out]
  clear he
  go_wp2_with fail
  refine (next_any _ _ _ hs hx).mono ?_
  rintro e w' ⟨rfl, rfl⟩
  go_wp2_with fail
  go_ret
  exact ⟨rfl, hb2.trans ((hb3.mono hb2.size).trans ((hb4.mono (by have := hb2.size; omega)).trans ((hb5.mono (by have := hb2.size; omega)).trans (hb6.mono (by have := hb2.size; omega)))))⟩
end Go.Proofs.Ytcffkfjkjclehaa
