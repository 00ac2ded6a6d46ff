/- The law's known(). Conditions: none. -/
import Derived.Test.YtnbbneldbagohaaDiskHold
import Derived.Test.YtnbbneldbagohaaDiskFull
namespace Go.Proofs.Ytnbbneldbagohaa
open Go.ChangeShapes Go.WideShapes Go.ChangeAt Go.RowKit
set_option linter.unusedVariables false
set_option linter.unusedSimpArgs false
set_option maxRecDepth 20000

def kn0 : DevP := DevP.new 4 4
def kn1 : DevP := (kn0.write 0 3 (fullL [1, 1, 1])).2
def kn2 : DevP := (kn1.write 0 3 (fullL [2, 2, 2])).2
def kn3 : DevP := kn2.crash [⟨0, 3, 1, 2⟩]
theorem kn_facts : (kn0.write 0 3 (fullL [1, 1, 1])).1 = 0 ∧ (kn1.write 0 3 (fullL [2, 2, 2])).1 = 0 ∧ (kn2.read 0 3).2 = 0 ∧ (kn2.read 0 3).1.length = 128 ∧ (kn2.read 0 3).1[0]? = some 2 ∧ (kn3.image 0).length = 4 ∧ ((kn3.image 0)[3]?.getD []).length = 128 ∧ ((kn3.image 0)[3]?.getD [])[1]? = some 2 ∧ ((kn3.image 0)[3]?.getD [])[2]? = some 1 := by
  refine ⟨?_, ?_, ?_, ?_, ?_, ?_, ?_, ?_, ?_⟩ <;> decide +kernel
theorem kn_good : kn0.good 0 ∧ kn1.good 1 ∧ kn2.good 2 ∧ kn3.good 0 :=
  have h0 : kn0.good 0 := DevP.good_new (by omega) (by omega)
  have h1 : kn1.good 1 := h0.write 0 3 _
  have h2 : kn2.good 2 := h1.write 0 3 _
  ⟨h0, h1, h2, h2.crash _⟩
theorem full3 (x : Nat) (hx : x < 256) (W : World) (cs : Array Value) (he : cs = #[.int .u8 (x : Int), .int .u8 (x : Int), .int .u8 (x : Int)]) :
    Calls Try.prog 11 #[.slice (some ⟨W.heap.size, 0, none⟩) 3 3] (W.alloc (.cells cs 5)) (RetBytes 5 (fullL [x, x, x]) (W.alloc (.cells cs 5))) := by
  subst he
  have hb : Bytes (W.alloc (.cells #[.int .u8 (x : Int), .int .u8 (x : Int), .int .u8 (x : Int)] 5)) (W.heap.size + 1) (some ⟨W.heap.size, 0, none⟩) [x, x, x] :=
    Bytes.new W [x, x, x] 5 (0, 0) (fun y hy => by simp at hy; omega)
  exact full_any (some ⟨W.heap.size, 0, none⟩) 3 [x, x, x] (W.heap.size + 1) _ hb (by simp)
set_option maxHeartbeats 1000000 in
theorem known_any (w : World) : Calls Try.prog 9 #[] w fun e w' => e = .returned (.bool true) ∧ Below w.heap.size w w' := by
  obtain ⟨g0, g1, g2, g3⟩ := kn_good
  obtain ⟨f1, f2, f3, f4, f5, f6, f7, f8, f9⟩ := kn_facts
  go_enter Try.func9, Try.ntmps9
  go_wp2_with fail
  refine (new_any 4 4 w).mono ?_
  rintro e w1 ⟨h1, -, b1⟩
  obtain ⟨p, rfl, hd⟩ := h1 ⟨⟨by omega, by omega⟩, ⟨by omega, by omega⟩⟩
  have hd1 := Dv.start (w0 := w) hd (Nat.le_refl _)
  rw [show DevP.new (4 : Int).toNat (4 : Int).toNat = kn0 from rfl] at hd1
  have hF1 : ∀ b, (fun x => w.heap.size ≤ x ∧ x < w1.heap.size) b → b < w1.heap.size := fun b q => q.2
  generalize (fun x => w.heap.size ≤ x ∧ x < w1.heap.size) = F1 at *
  clear h1 hd hF1
  obtain ⟨gp, s, lv, X, rfl, -⟩ := hd1.dev
  -- first write
  have a1 := (Below.refl w1.heap.size w1).alloc (Nat.le_refl _) (.cells #[.int .u8 1, .int .u8 1, .int .u8 1] 5)
  go_wp2_with fail
  refine (full3 1 (by omega) w1 _ rfl).mono ?_
  rintro e w2 ⟨A2, c2, rfl, o2, b2, s2⟩
  have hb2 := a1.trans (b2.mono a1.size)
  have hd2 := hd1.below hb2
  have x2 := out_own (own_base a1.size o2) s2 hd1.hi
  have bw2 := b1.trans (hb2.mono b1.size)
  rw [fullL_length] at o2 ⊢
  go_wp2_with fail
  have hw := write_any hd2.dev hd2.hi g0 (by omega) 0 (by omega) 3 A2 c2 _ x2
  rw [f1, fullL_length] at hw
  refine hw.mono ?_
  rintro e w3 ⟨rfl, hp3⟩
  obtain ⟨hd3, bw3⟩ := hd2.post bw2.size hp3
  replace bw3 := bw2.trans bw3
  clear hd1 hd2 a1 b1 b2 hb2 o2 x2 s2 bw2 hw hp3
  rw [show (kn0.write 0 3 (fullL [1, 1, 1])).2 = kn1 from rfl] at hd3
  generalize grow F1 w2 w3 = F3 at *
  -- second write
  have a3 := (Below.refl w3.heap.size w3).alloc (Nat.le_refl _) (.cells #[.int .u8 2, .int .u8 2, .int .u8 2] 5)
  go_wp2_with fail
  refine (full3 2 (by omega) w3 _ rfl).mono ?_
  rintro e w4 ⟨A4, c4, rfl, o4, b4, s4⟩
  have hb4 := a3.trans (b4.mono a3.size)
  have hd4 := hd3.below hb4
  have x4 := out_own (own_base a3.size o4) s4 hd3.hi
  have bw4 := bw3.trans (hb4.mono bw3.size)
  rw [fullL_length] at o4 ⊢
  go_wp2_with fail
  have hw := write_any hd4.dev hd4.hi g1 (by omega) 0 (by omega) 3 A4 c4 _ x4
  rw [f2, fullL_length] at hw
  refine hw.mono ?_
  rintro e w5 ⟨rfl, hp5⟩
  obtain ⟨hd5, bw5⟩ := hd4.post bw4.size hp5
  replace bw5 := bw4.trans bw5
  clear hd3 hd4 a3 b4 hb4 o4 x4 s4 bw3 bw4 hw hp5
  rw [show (kn1.write 0 3 (fullL [2, 2, 2])).2 = kn2 from rfl] at hd5
  generalize grow F3 w4 w5 = F5 at *
  -- read
  go_wp2_with fail
  have hr := read_any hd5.dev g2 (by omega) 0 (by omega) 3
  rw [f3] at hr
  refine hr.mono ?_
  rintro e w6 ⟨A6, c6, rfl, o6, b6, s6⟩
  have hd6 := hd5.below b6
  have x6 := out_own o6 s6 hd5.hi
  have bw6 := bw5.trans (b6.mono bw5.size)
  generalize hrl : (kn2.read 0 3).1 = rl at *
  rw [f4]
  clear hd5 o6 b6 s6 bw5 hr
  -- crash
  have hfa := FatesAt.new w6 [⟨0, 3, 1, 2⟩] (fun x hx => by simp at hx; subst hx; simp)
  have a7 := (Below.refl w6.heap.size w6).alloc (Nat.le_refl _) (.cells (List.flatMap fateCells [⟨0, 3, 1, 2⟩]).toArray 24)
  have hsz7 : (w6.alloc (.cells (List.flatMap fateCells [⟨0, 3, 1, 2⟩]).toArray 24)).heap.size = w6.heap.size + 1 := World.size_alloc _ _
  have hfa' : FatesAt (w6.alloc (.cells (List.flatMap fateCells [⟨0, 3, 1, 2⟩]).toArray 24)) (w6.alloc (.cells (List.flatMap fateCells [⟨0, 3, 1, 2⟩]).toArray 24)).heap.size (some ⟨w6.heap.size, 0, none⟩) [⟨0, 3, 1, 2⟩] := ⟨hfa.1.more (by rw [hsz7]; exact Nat.le_refl _), hfa.2⟩
  have hd7 := hd6.below a7
  have x7 := out_below x6 a7
  have bw7 := bw6.trans (a7.mono bw6.size)
  have hc : Calls Try.prog 13 #[.pointer (some ⟨gp, 0, none⟩), .slice (some ⟨w6.heap.size, 0, none⟩) 1 1] (w6.alloc (.cells #[.int .u8 0, .int .i64 3, .int .i64 1, .int .i64 2] 24)) fun e w' => e = .returned (.tuple #[]) ∧ DevPost (kn2.crash [⟨0, 3, 1, 2⟩]) F5 (.pointer (some ⟨gp, 0, none⟩)) (w6.alloc (.cells #[.int .u8 0, .int .i64 3, .int .i64 1, .int .i64 2] 24)) w' :=
    crash_any hd7.dev hd7.hi g2 (by omega) (some ⟨w6.heap.size, 0, none⟩) 1 [⟨0, 3, 1, 2⟩] hfa' (fun b o e _ z => by injection e with e; injection e with e1 e2; subst e1; have := hd6.hi _ z; omega) (by simp)
  have hd7' : Dv kn2 w (w6.alloc (.cells #[.int .u8 0, .int .i64 3, .int .i64 1, .int .i64 2] 24)) F5 (.pointer (some ⟨gp, 0, none⟩)) := hd7
  have x7' : BytesIn (w6.alloc (.cells #[.int .u8 0, .int .i64 3, .int .i64 1, .int .i64 2] 24)) (fun b => ¬ F5 b) A6 rl := x7
  have bw7' : Below w.heap.size w (w6.alloc (.cells #[.int .u8 0, .int .i64 3, .int .i64 1, .int .i64 2] 24)) := bw7
  clear hfa hfa' a7 hsz7 hd7 x7 bw7 hd6 x6 bw6
  go_wp2_with fail
  refine hc.mono ?_
  rintro e w8 ⟨rfl, hp8⟩
  generalize World.alloc w6 _ = w7 at *
  obtain ⟨hd8, bw8⟩ := hd7'.post bw7'.size hp8
  have x8 := out_post x7' hp8.2
  replace bw8 := bw7'.trans bw8
  rw [show kn2.crash [⟨0, 3, 1, 2⟩] = kn3 from rfl] at hd8
  clear hd7' x7' bw7' hp8 hc
  generalize grow F5 w7 w8 = F8 at *
  -- image
  go_wp2_with fail
  refine (image_any hd8.dev g3 0 (by omega)).mono ?_
  rintro e w9 hret
  obtain ⟨A9, c9, L9, rfl, o9, r9, b9, at9, re9⟩ := hret.is
  clear hret
  have x9 := (out_below x8 b9).bytes
  have bw9 := bw8.trans (b9.mono bw8.size)
  clear hd8 x8 bw8 o9 r9 b9
  obtain ⟨bb, oo, rfl, -, u0, -⟩ := x9.at_ (k := 0) (by omega)
  rw [show rl[0]'(by omega) = 2 by rw [List.getElem?_eq_getElem (by omega)] at f5; injection f5, Nat.add_zero] at u0
  generalize kn3.image 0 = il at *
  obtain ⟨b', o', A', c', rfl, -, v3, -, y9⟩ := reads_at at9 re9 (k := 3) (by omega)
  rw [List.getElem?_eq_getElem (by omega : 3 < il.length), Option.getD_some] at f7 f8 f9
  rw [f7] at v3
  rw [f6]
  generalize il[3]'(by omega) = t at *
  obtain ⟨b2', o2', rfl, -, v1, -⟩ := y9.at_ (k := 1) (by omega)
  obtain ⟨b3', o3', e3', -, v2, -⟩ := y9.at_ (k := 2) (by omega)
  injection e3' with e3'
  injection e3' with e31 e32
  subst e31
  subst e32
  rw [show t[1]'(by omega) = 2 by rw [List.getElem?_eq_getElem (by omega)] at f8; injection f8] at v1
  rw [show t[2]'(by omega) = 1 by rw [List.getElem?_eq_getElem (by omega)] at f9; injection f9] at v2
  clear at9 re9 y9 x9 f1 f2 f3 f4 f5 f6 f7 f8 f9 g0 g1 g2 g3
  go_wp2
  go_ret
  exact ⟨rfl, bw9⟩
end Go.Proofs.Ytnbbneldbagohaa
