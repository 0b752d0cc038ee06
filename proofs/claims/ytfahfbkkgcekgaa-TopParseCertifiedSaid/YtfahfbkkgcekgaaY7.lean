/- A drawing region inside the body of a range over a function, by the moves of a held walk. -/
import Derived.Test.YtfahfbkkgcekgaaY6
import Derived.Deep.RegionHeld3
namespace Go.Proofs.Ytfahfbkkgcekgaa.H
set_option linter.unusedVariables false
open Go Go.RowKit Go.Shelf Go.Proofs.Ytfahfbkkgcekgaa Go.Proofs.Ytfahfbkkgcekgaa.W Go.Proofs.Ytfahfbkkgcekgaa.M

theorem op_round {P : Program} {l n : Nat} {o : Oper} {a : Act} {w : World} {K : Act → World → Prop} {Q : Exit → Act → World → Prop} (hnd : ∀ c, o.op ≠ .defer c) (h : Oper.wp P o a w K Q) : Oper.wpIn (Fence.wide.inRound l) n P o a w K Q := by
  unfold Oper.wpIn
  refine ⟨fun _ _ => trivial, ?_⟩
  rw [Fence.inRound_round, Oper.semAt_some _ _ _ hnd]
  unfold Oper.wp at h
  generalize (execOp a.eval o).run P w = r at h
  cases r with
  | ok x w' =>
    cases x <;> simp only [Oper.upon, Oper.uponIn] at h ⊢
    case value => exact h
    case skip => exact h
    case defer => exact h
    case enter => exact ⟨(fun hh => by cases hh), CallsIn.inRound l (callsIn_wide.2 h)⟩
    case row => exact ⟨(fun hh => by cases hh), fun c cs _ => by obtain ⟨v, w', r, s⟩ := h c cs; exact ⟨v, w', r, stepsIn_wide.2 s⟩⟩
  | halt x w' => cases x <;> simp only [Oper.upon, Oper.uponIn] at h ⊢; exact h
/-- The post that only lets the plain end through. -/
def onlyN (R : Act → World → Prop) : Exit → Act → World → Prop
  | .normal, a, w => R a w
  | _, _, _ => False
theorem wpOp_round {P : Program} {ops : Array Oper} {l n i : Nat} {R : Act → World → Prop} {K : Act → World → Prop} {a : Act} {w : World} (hnd : ops.all (fun o => match o.op with | .defer _ => false | _ => true) = true) (h : wpOp P ops (onlyN R) i K a w) : wpOpIn (Fence.wide.inRound l) n P ops (onlyN R) i K a w := by
  unfold wpOp at h
  unfold wpOpIn
  cases ho : ops[i]? with
  | none => rw [ho] at h; exact h
  | some o =>
    rw [ho] at h
    simp only at h ⊢
    split at h
    · rename_i hw
      rw [if_pos hw]
      rcases h with h | ⟨_, h⟩
      · refine op_round (fun c e => ?_) h
        rw [Array.all_eq_true] at hnd
        obtain ⟨hi, rfl⟩ := Array.getElem?_eq_some_iff.1 ho
        have := hnd i hi
        rw [e] at this
        cases this
      · obtain ⟨_, _, h⟩ := h; exact h.elim
    · rename_i hw
      rw [if_neg hw]
      exact ⟨fun _ _ => trivial, h⟩
theorem wpAny_round {P : Program} {ops : Array Oper} {l n : Nat} {R : Act → World → Prop} {md : Region.Mode} (hnd : ops.all (fun o => match o.op with | .defer _ => false | _ => true) = true) : ∀ (fuel : Nat) (listed : Array Bool) (a : Act) (w : World), wpAny P md ops (onlyN R) fuel listed a w → wpAnyIn (Fence.wide.inRound l) n P md ops (onlyN R) fuel listed a w
  | 0, _, _, _, h => h
  | fuel + 1, listed, a, w, h => ⟨h.1, fun i hi => wpOpIn_mono (fun a' w' h' => wpAny_round hnd fuel _ a' w' h') (wpOp_round hnd (h.2 i hi))⟩
theorem region_round {P : Program} {ops : Array Oper} {l n id : Nat} (R : Act → World → Prop) (S : World → Prop) {Q : Exit → Act → World → Prop} {a : Act} {w : World} (hm : P.follows .mixedOrders = true) (hnd : ops.all (fun o => match o.op with | .defer _ => false | _ => true) = true)
    (hS : S w.drew) (h : S w.drew → wpAnyH P .any ops (onlyN R) S ops.size (Array.replicate ops.size false) a w.drew) (hR : ∀ a w, R a w → Q .normal a w) : (Code.region id ops true).wpIn (Fence.wide.inRound l) n P Q a w := by
  refine Code.wpIn_mono (Q := onlyN R) (fun e a w h => ?_) (wpIn_region_any hm (wpAny_round hnd _ _ _ _ (wpAny_of_held _ _ _ _ (h hS))))
  cases e <;> first | exact hR _ _ h | exact h.elim
end Go.Proofs.Ytfahfbkkgcekgaa.H
