/- What is proved: the steps of a region's tree of plans again, each behind a box that stops the unfolding of what is left. -/
import Derived.Test.YthpafpgillnimaaRegion3
import Derived.Test.YthpafpgillnimaaRegion4
namespace Go.Proofs.Plan
section
variable {P : Program} {ops : Array Oper}

theorem wp_region_tr {id : Nat} {Q : Exit → Act → World → Prop} {a : Act} {w : World} {l : List Oper} (plan : Tree) (hm : P.follows .mixedOrders = true) (hB : treeB .any l.toArray plan = true)
    (h : Stop (wpTree P l.toArray (Q .normal) plan a w.drew)) : (Code.region id l.toArray true).wp P Q a w := wp_region_tree plan hm hB h.out

theorem tr_st {ops : List Oper} {Q : Act → World → Prop} {i : Nat} {r : Tree} {o : Oper} {a : Act} {w : World} (hi : ops[i]? = some o)
    (h : wpQuiet P ops.toArray (fun w' => w' = w) (fun a' => Stop (wpTree P ops.toArray Q r a' w)) [o] a) : Stop (wpTree P ops.toArray Q (.st i r) a w) :=
  ⟨tree_st hi (by simpa only [stop_eq] using h)⟩

def TrQ (P : Program) (ops : Array Oper) (Q : Act → World → Prop) (l : List Nat) (r : Tree) : Exit → Act → World → Prop
  | .normal, a, w => wpChk P ops l a w ∧ Stop (wpTree P ops Q r a w)
  | _, _, _ => False

theorem trQ_eq (Q : Act → World → Prop) (l : List Nat) (r : Tree) : TrQ P ops Q l r = TreeQ P ops Q l r := by
  funext e a w
  cases e <;> simp [TrQ, TreeQ, stop_eq]

theorem trQ_mk {Q : Act → World → Prop} {l : List Nat} {r : Tree} {a : Act} {w : World} (h1 : wpChk P ops l a w) (h2 : Stop (wpTree P ops Q r a w)) : TrQ P ops Q l r .normal a w := ⟨h1, h2⟩

theorem tr_ac {ops : List Oper} {Q : Act → World → Prop} {k : Nat} {l : List Nat} {r : Tree} {o : Oper} {a : Act} {w : World} (hi : ops[k]? = some o)
    (h : wpList P ops.toArray (TrQ P ops.toArray Q l r) [o] a w) : Stop (wpTree P ops.toArray Q (.ac k l r) a w) := ⟨tree_ac hi (by rwa [trQ_eq] at h)⟩

theorem tr_br {ops : List Oper} {Q : Act → World → Prop} {k1 k2 : Nat} {l1 l2 : List Nat} {r1 r2 : Tree} {o1 o2 : Oper} {a : Act} {w : World} (hi1 : ops[k1]? = some o1) (hi2 : ops[k2]? = some o2)
    (h1 : wpList P ops.toArray (TrQ P ops.toArray Q l1 r1) [o1] a w) (h2 : wpList P ops.toArray (TrQ P ops.toArray Q l2 r2) [o2] a w) : Stop (wpTree P ops.toArray Q (.br k1 l1 r1 k2 l2 r2) a w) :=
  ⟨tree_br hi1 hi2 (by rwa [trQ_eq] at h1) (by rwa [trQ_eq] at h2)⟩

theorem tr_end {Q : Act → World → Prop} {a : Act} {w : World} (h : Q a w) : Stop (wpTree P ops Q .done a w) := ⟨tree_end h⟩
end
end Go.Proofs.Plan
