/- What is proved: what Find of a schema answers, as a function of the id. -/
import Derived.Test.YtkgkcnmnfhehfaaSchAt
namespace Go.Proofs.Ytkgkcnmnfhehfaa
open Go.RowKit Go.Proofs.Heap Go.Proofs.Sch

def nilC : Cmp := ⟨0, ⟨#[]⟩, []⟩
/-- The component of an id, or none. -/
def foundC (cs : List Cmp) (id : Int) : Cmp := if idxI (fun c : Cmp => decide (c.id = id)) cs < 0 then nilC else (cs[(idxI (fun c : Cmp => decide (c.id = id)) cs).toNat]?).getD nilC
theorem foundC_small {cs : List Cmp} (h : Small cs) (id : Int) : (foundC cs id).fs.length ≤ 4398046511104 := by
  unfold foundC
  split
  · simp [nilC]
  · cases e : cs[(idxI (fun c : Cmp => decide (c.id = id)) cs).toNat]? with
    | none => simp [nilC]
    | some c => exact h.2 c (List.mem_of_getElem? e)
end Go.Proofs.Ytkgkcnmnfhehfaa
