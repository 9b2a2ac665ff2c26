/- What is proved: whether rows of fields, components, schemas are the same: what the program's and the reference's functions answer. -/
import Derived.Test.YtkgkcnmnfhehfaaSchFields
import Derived.Test.YtkgkcnmnfhehfaaRegion
import Derived.Test.YtkgkcnmnfhehfaaSchCheck
namespace Go.Proofs.Sch
theorem Fld.ext_iff' (a b : Fld) : (a.name = b.name ∧ a.kind = b.kind ∧ a.count = b.count) ↔ a = b := by
  cases a; cases b; simp
instance : DecidableEq Fld := fun a b => decidable_of_iff _ (Fld.ext_iff' a b)
end Go.Proofs.Sch
namespace Go.Proofs.Ytkgkcnmnfhehfaa
open Go.RowKit Go.Proofs.Heap Go.Proofs.Sch

theorem take_eq {α : Type} {A B : List α} {k : Nat} {x y : α} (h : A.take k = B.take k) (hx : A[k]? = some x) (hy : B[k]? = some y) (e : x = y) : A.take (k + 1) = B.take (k + 1) := by
  rw [take_next hx, take_next hy, h, e]

theorem toList_inj {a b : ByteArray} (h : a.toList = b.toList) : a = b := of_decide_eq_true (by rw [← seq_dec]; simp [h])

theorem Cmp.ext_iff' (a b : Cmp) : (a.id = b.id ∧ a.name = b.name ∧ a.fs = b.fs) ↔ a = b := by
  cases a; cases b; simp
instance : DecidableEq Cmp := fun a b => decidable_of_iff _ (Cmp.ext_iff' a b)

end Go.Proofs.Ytkgkcnmnfhehfaa

namespace Go.Proofs.Ytkgkcnmnfhehfaa
open Go.RowKit Go.Proofs.Heap Go.Proofs.Sch

end Go.Proofs.Ytkgkcnmnfhehfaa
