/- What is proved: an active operation of a tree of plans whose run is known. -/
import Derived.Test.YthpafpgillnimaaRegion5
namespace Go.Proofs.Plan
section
variable {P : Program}

theorem tr_run {ops : Array Oper} {Q : Act → World → Prop} {l : List Nat} {r : Tree} {o : Oper} {a : Act} {w : World} {v : Value} {w' : World}
    (hw : Region.wanted o (yielded ops a.tmps) = true) (hr : (execOp a.eval o).run P w = .ok (.value v) w')
    (h : ∀ a', a' = a.put o.dst v → TrQ P ops Q l r .normal a' w') : wpList P ops (TrQ P ops Q l r) [o] a w := by
  unfold wpList
  rw [if_pos hw]
  refine .inl ?_
  unfold Oper.wp
  rw [hr]
  unfold Oper.upon
  unfold wpList
  exact h _ rfl

theorem tr_run_skip {ops : Array Oper} {Q : Act → World → Prop} {l : List Nat} {r : Tree} {o : Oper} {a : Act} {w : World} {w' : World}
    (hw : Region.wanted o (yielded ops a.tmps) = true) (hd : o.dst = none) (hr : (execOp a.eval o).run P w = .ok .skip w')
    (h : TrQ P ops Q l r .normal a w') : wpList P ops (TrQ P ops Q l r) [o] a w := by
  unfold wpList
  rw [if_pos hw]
  refine .inl ?_
  unfold Oper.wp
  rw [hr]
  unfold Oper.upon
  unfold wpList
  first | exact h | (simp only [Act.put, hd]; exact h)
end
end Go.Proofs.Plan
