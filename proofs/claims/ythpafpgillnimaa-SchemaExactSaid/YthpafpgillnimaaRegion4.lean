/- What is proved: the steps of a region's plan again, each behind a box that stops the unfolding of what is left. -/
import Derived.Test.YthpafpgillnimaaRegion2
namespace Go.Proofs.Plan
section
variable {P : Program} {ops : Array Oper}

/-- A box: what is in it isn't unfolded. -/
structure Stop (p : Prop) : Prop where
  out : p
theorem stop_eq (p : Prop) : Stop p = p := propext ⟨fun h => h.out, fun h => ⟨h⟩⟩

theorem wp_region_pl {id : Nat} {Q : Exit → Act → World → Prop} {a : Act} {w : World} {l : List Oper} (plan : List (Bool × Nat × List Nat)) (hm : P.follows .mixedOrders = true) (hB : planB2 .any l.toArray plan = true)
    (h : Stop (wpPlan P l.toArray (Q .normal) plan a w.drew)) : (Code.region id l.toArray true).wp P Q a w := wp_region_plan2 plan hm hB h.out

theorem pl_st {ops : List Oper} {Q : Act → World → Prop} {i : Nat} {lc : List Nat} {r : List (Bool × Nat × List Nat)} {o : Oper} {a : Act} {w : World} (hi : ops[i]? = some o)
    (h : wpQuiet P ops.toArray (fun w' => w' = w) (fun a' => Stop (wpPlan P ops.toArray Q r a' w)) [o] a) : Stop (wpPlan P ops.toArray Q ((false, i, lc) :: r) a w) :=
  ⟨plan_st hi (by simpa only [stop_eq] using h)⟩

/-- Behind an active step. -/
def PlQ (P : Program) (ops : Array Oper) (Q : Act → World → Prop) (l : List Nat) (r : List (Bool × Nat × List Nat)) : Exit → Act → World → Prop
  | .normal, a, w => wpChk P ops l a w ∧ Stop (wpPlan P ops Q r a w)
  | _, _, _ => False

theorem plQ_eq (Q : Act → World → Prop) (l : List Nat) (r : List (Bool × Nat × List Nat)) : PlQ P ops Q l r = PlanQ P ops Q l r := by
  funext e a w
  cases e <;> simp [PlQ, PlanQ, stop_eq]

theorem plQ_mk {Q : Act → World → Prop} {l : List Nat} {r : List (Bool × Nat × List Nat)} {a : Act} {w : World} (h1 : wpChk P ops l a w) (h2 : Stop (wpPlan P ops Q r a w)) : PlQ P ops Q l r .normal a w := ⟨h1, h2⟩

theorem pl_ac {ops : List Oper} {Q : Act → World → Prop} {k : Nat} {l : List Nat} {r : List (Bool × Nat × List Nat)} {o : Oper} {a : Act} {w : World} (hi : ops[k]? = some o)
    (h : wpList P ops.toArray (PlQ P ops.toArray Q l r) [o] a w) : Stop (wpPlan P ops.toArray Q ((true, k, l) :: r) a w) :=
  ⟨plan_ac hi (by rwa [plQ_eq] at h)⟩

theorem pl_end {Q : Act → World → Prop} {a : Act} {w : World} (h : Q a w) : Stop (wpPlan P ops Q [] a w) := ⟨plan_end h⟩
end
end Go.Proofs.Plan
