/- A region that draws its order, in a round of a range over a function: what is shown of it as of any region serves there too, where it holds no defer statement. Over any program. -/
import Derived.Test.YteamocejpankdaaA2
import Derived.RangeFuncNested
import Derived.RangeFuncBound
import Derived.RangeFuncCalls
import Derived.RangeFuncLeaves
import Derived.Shelf.Abstract
import Derived.Shelf.RegionOpen
import Derived.OwnWalkIn
import Derived.TacticsInMore
import Derived.LoopNIn
import Derived.LoopIn
import Derived.OrdersHeld
import Derived.Deep.RegionHeld3
namespace Go.Proofs.Yteamocejpankdaa
open Go.RowKit
set_option linter.unusedVariables false

/-- No defer statement, no 'row' of the machine's. -/
def noDefer (ops : Array Oper) : Bool := ops.all fun o => match o.op with | .defer _ => false | _ => true

section
variable {P : Program} {ops : Array Oper} {Q : Exit → Act → World → Prop}

theorem upon_in {o : Oper} {a : Act} {K : Act → World → Prop} {l n : Nat} {r : Result Next} (h : o.upon P a K Q r) : o.uponIn (Fence.wide.inRound l) n P a K Q r := by
  unfold Oper.uponIn
  unfold Oper.upon at h
  split at h
  · exact h
  · exact h
  · exact h
  · rename_i f args w'
    refine ⟨fun hd => by simp [Fence.wide] at hd, CallsIn.inRound l (callsIn_wide.2 (h.mono ?_))⟩
    intro e w h
    cases e <;> exact h
  · rename_i row args w'
    refine ⟨fun hd => by simp [Fence.wide] at hd, fun c cs _ => ?_⟩
    obtain ⟨v, w1, hv, hs⟩ := h c cs
    exact ⟨v, w1, hv, (stepsIn_wide (P := P)).2 hs⟩
  · exact h
  · exact h.elim

theorem op_in {l n i : Nat} {K : Act → World → Prop} {a : Act} {w : World} (hd : noDefer ops = true) (hQ : ¬ LetsOut Q) (h : wpOp P ops Q i K a w) : wpOpIn (Fence.wide.inRound l) n P ops Q i K a w := by
  unfold wpOp at h
  unfold wpOpIn
  cases ho : ops[i]? with
  | none => rw [ho] at h; exact h
  | some o =>
    rw [ho] at h
    dsimp only at h ⊢
    by_cases hw : Region.wanted o (yielded ops a.tmps) = true
    · rw [if_pos hw] at h ⊢
      rcases h with h | h
      · refine ⟨fun _ _ => trivial, ?_⟩
        have hdo : ∀ c, o.op ≠ .defer c := by
          intro c hc
          have hm := (Array.all_eq_true_iff_forall_mem.1 hd) o (Array.mem_of_getElem? ho)
          rw [hc] at hm
          cases hm
        rw [Oper.semAt_eq _ _ _ hdo]
        exact upon_in h
      · exact absurd h.2 hQ
    · rw [if_neg hw] at h ⊢
      exact ⟨fun _ _ => trivial, h⟩

theorem any_in {l n : Nat} {md : Region.Mode} (hd : noDefer ops = true) (hQ : ¬ LetsOut Q) : ∀ (fuel : Nat) (listed : Array Bool) (a : Act) (w : World), wpAny P md ops Q fuel listed a w → wpAnyIn (Fence.wide.inRound l) n P md ops Q fuel listed a w
  | 0, _, _, _, h => h
  | fuel + 1, listed, a, w, h => ⟨h.1, fun i hi => wpOpIn_mono (fun a' w' h' => any_in hd hQ fuel _ a' w' h') (op_in hd hQ (h.2 i hi))⟩

/-- The beginning, in a round: as wp_region_held. -/
theorem region_held_in {l n id : Nat} {S : World → Prop} {a : Act} {w : World} (hm : P.follows .mixedOrders = true) (hd : noDefer ops = true) (hQ : ¬ LetsOut Q)
    (h : wpAnyH P .any ops Q S ops.size (Array.replicate ops.size false) a w.drew) : (Code.region id ops true).wpIn (Fence.wide.inRound l) n P Q a w :=
  wpIn_region_any hm (any_in hd hQ _ _ _ _ (wpAny_of_held _ _ _ _ h))
end
end Go.Proofs.Yteamocejpankdaa
