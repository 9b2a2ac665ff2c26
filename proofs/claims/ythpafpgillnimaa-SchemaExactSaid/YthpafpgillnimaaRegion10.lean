/- What is proved: an active operation of a drawn region may be walked by itself, with what follows behind a variable. -/
import Derived.Test.YthpafpgillnimaaRegion7
import Derived.Test.YthpafpgillnimaaHeap
namespace Go.Proofs.Plan
open Go.RowKit Go.Proofs.Heap
section
variable {P : Program}

/-- The active operation alone: no list, no guard, no other operation in sight. -/
theorem pl_acv {ops : List Oper} {Q : Act → World → Prop} {k : Nat} {l : List Nat} {r : List (Bool × Nat × List Nat)} {d : Option Tmp} {op : Op} {ty : TypeId} {pos : String} {af : Array Edge} {g : Option (Nat × Bool)} {a : Act} {w : World}
    (hi : ops[k]? = some ⟨d, op, ty, pos, af, g⟩) (hw : Region.wanted ⟨d, op, ty, pos, af, g⟩ (yielded ops.toArray a.tmps) = true)
    (h : ∀ Qp : Exit → Act → World → Prop, Hid (∀ a' w', PlQ P ops.toArray Q l r .normal a' w' → Qp .normal a' w') → wpList P #[] Qp [⟨d, op, ty, pos, #[], none⟩] a w) :
    Stop (wpPlan P ops.toArray Q ((true, k, l) :: r) a w) := by
  refine pl_ac hi ?_
  have h1 := h (PlQ P ops.toArray Q l r) (hid fun _ _ x => x)
  unfold wpList at h1 ⊢
  rw [if_pos hw]
  have h2 : Region.wanted ⟨d, op, ty, pos, #[], none⟩ (yielded #[] a.tmps) = true := rfl
  rw [if_pos h2] at h1
  exact h1

/-- A quiet operation alone. -/
theorem pl_stv {ops : List Oper} {Q : Act → World → Prop} {k : Nat} {l : List Nat} {r : List (Bool × Nat × List Nat)} {d : Option Tmp} {op : Op} {ty : TypeId} {pos : String} {af : Array Edge} {g : Option (Nat × Bool)} {a : Act} {w : World}
    (hi : ops[k]? = some ⟨d, op, ty, pos, af, g⟩) (hw : Region.wanted ⟨d, op, ty, pos, af, g⟩ (yielded ops.toArray a.tmps) = true)
    (h : ∀ K : Act → Prop, Hid (∀ a', Stop (wpPlan P ops.toArray Q r a' w) → K a') → wpQuiet P #[] (fun w' => w' = w) K [⟨d, op, ty, pos, #[], none⟩] a) :
    Stop (wpPlan P ops.toArray Q ((false, k, l) :: r) a w) := by
  refine pl_st hi ?_
  have h1 := h (fun a' => Stop (wpPlan P ops.toArray Q r a' w)) (hid fun _ x => x)
  unfold wpQuiet at h1 ⊢
  rw [if_pos hw]
  have h2 : Region.wanted ⟨d, op, ty, pos, #[], none⟩ (yielded #[] a.tmps) = true := rfl
  rw [if_pos h2] at h1
  exact h1

/-- An active operation whose run is known. -/
theorem pl_run {ops : List Oper} {Q : Act → World → Prop} {k : Nat} {l : List Nat} {r : List (Bool × Nat × List Nat)} {o : Oper} {a : Act} {w : World} {v : Value} {w' : World}
    (hi : ops[k]? = some o) (hw : Region.wanted o (yielded ops.toArray a.tmps) = true) (hr : (execOp a.eval o).run P w = .ok (.value v) w')
    (h : ∀ a', a' = a.put o.dst v → PlQ P ops.toArray Q l r .normal a' w') : Stop (wpPlan P ops.toArray Q ((true, k, l) :: r) a w) := by
  refine pl_ac hi ?_
  unfold wpList
  rw [if_pos hw]
  refine .inl ?_
  unfold Oper.wp
  rw [hr]
  unfold Oper.upon
  unfold wpList
  exact h _ rfl

/-- An active operation that isn't wanted. -/
theorem pl_skip {ops : List Oper} {Q : Act → World → Prop} {k : Nat} {l : List Nat} {r : List (Bool × Nat × List Nat)} {o : Oper} {a : Act} {w : World}
    (hi : ops[k]? = some o) (hw : Region.wanted o (yielded ops.toArray a.tmps) = false) (h : ∀ a', a' = a.put o.dst undef → PlQ P ops.toArray Q l r .normal a' w) : Stop (wpPlan P ops.toArray Q ((true, k, l) :: r) a w) := by
  refine pl_ac hi ?_
  unfold wpList
  rw [if_neg (by rw [hw]; exact Bool.false_ne_true)]
  unfold wpList
  exact h _ rfl
end
end Go.Proofs.Plan
