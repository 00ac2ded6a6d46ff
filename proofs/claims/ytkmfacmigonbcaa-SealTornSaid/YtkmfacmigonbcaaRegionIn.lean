/- A statement that draws its order, inside a loop over a function: what is shown of it outside a fence holds in it. Conditions: nothing is deferred in it; nothing outgrows. -/
import Derived.Test.YtkmfacmigonbcaaSteps
import Derived.OrdersIn
import Derived.RangeFuncNested
import Derived.Deep.RegionHeld
namespace Go.Proofs.Ytkmfacmigonbcaa
open Go.RowKit
set_option linter.unusedVariables false

theorem calls_round {l n : Nat} {P : Program} {f : FuncId} {args : Array Value} {w : World} {R : Ending → World → Prop} (h : Calls P f args w R) : CallsIn (Fence.wide.inRound l) n P f args w R :=
  (callsIn_wide (n := n)).2 h
theorem rows_round {l n : Nat} {P : Program} {row : String} {args : Array Value} {w : World} {R : Value → World → Prop} (h : Rows P row args w R) : RowsIn (Fence.wide.inRound l) n P row args w R := fun c cs _ => by
  obtain ⟨v, w', r, s⟩ := h c cs
  exact ⟨v, w', r, stepsIn_wide.2 s⟩
theorem oper_round {l n : Nat} {P : Program} {o : Oper} {a : Act} {w : World} {K : Act → World → Prop} {Q : Exit → Act → World → Prop} (hd : ∀ c, o.op ≠ .defer c) (h : o.wp P a w K Q) : o.wpIn (Fence.wide.inRound l) n P a w K Q := by
  refine ⟨fun _ _ => trivial, ?_⟩
  rw [Oper.semAt_eq _ _ _ hd]
  unfold Oper.wp at h
  generalize (execOp a.eval o).run P w = r at *
  have hdep : ((Fence.wide.inRound l).depth.isSome = true → 1 ≤ n) := fun e => by cases e
  cases r with
  | ok x w' =>
    cases x <;> simp only [Oper.upon] at h
    case value v => exact h
    case skip => exact h
    case defer d => exact h
    case enter f args => exact ⟨hdep, calls_round h⟩
    case row row args => exact ⟨hdep, rows_round h⟩
  | halt x w' =>
    cases x <;> simp only [Oper.upon] at h
    case panic v => exact h
theorem any_round {l n : Nat} {P : Program} {md : Region.Mode} {ops : Array Oper} {Q : Exit → Act → World → Prop} (hd : ∀ (i : Nat) (o : Oper), ops[i]? = some o → ∀ c, o.op ≠ .defer c) (hQ : ¬ LetsOut Q) :
    ∀ (fuel : Nat) (listed : Array Bool) (a : Act) (w : World), wpAny P md ops Q fuel listed a w → wpAnyIn (Fence.wide.inRound l) n P md ops Q fuel listed a w
  | 0, _, _, _, h => h
  | fuel + 1, listed, a, w, h => ⟨h.1, fun i hi => by
      have h2 := h.2 i hi
      unfold wpOp at h2
      unfold wpOpIn
      cases ho : ops[i]? with
      | none =>
        rw [ho] at h2
        exact any_round hd hQ fuel _ _ _ h2
      | some o =>
        rw [ho] at h2
        simp only at h2 ⊢
        split
        · rename_i hw
          rw [if_pos hw] at h2
          rcases h2 with h2 | h2
          · exact oper_round (hd i o ho) (Oper.wp_mono (fun a' w' h' => any_round hd hQ fuel _ _ _ h') h2)
          · exact absurd h2.2 hQ
        · rename_i hw
          rw [if_neg hw] at h2
          exact ⟨fun _ _ => trivial, any_round hd hQ fuel _ _ _ h2⟩⟩
theorem region_round {l n id : Nat} {P : Program} {ops : Array Oper} {Q : Exit → Act → World → Prop} {S : World → Prop} {a : Act} {w : World} (hm : P.follows .mixedOrders = true) (hd : ops.all (fun o => match o.op with | .defer _ => false | _ => true) = true) (hQ : ¬ LetsOut Q)
    (h : wpAnyH P .any ops Q S ops.size (Array.replicate ops.size false) a w.drew) : (Code.region id ops true).wpIn (Fence.wide.inRound l) n P Q a w := by
  refine wpIn_region_any hm (any_round ?_ hQ _ _ _ _ (wpAny_of_held _ _ _ _ h))
  intro i o ho c e
  have hmem : o ∈ ops := Array.mem_of_getElem? ho
  have := Array.all_eq_true_iff_forall_mem.1 hd o hmem
  rw [e] at this
  cases this
end Go.Proofs.Ytkmfacmigonbcaa
