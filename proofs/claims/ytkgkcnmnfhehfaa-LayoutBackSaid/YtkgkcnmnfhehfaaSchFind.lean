/- What is proved: what is found in a row of components by a closure. -/
import Derived.Test.YtkgkcnmnfhehfaaSchClone
namespace Go.Proofs.Ytkgkcnmnfhehfaa
open Go.RowKit Go.Proofs.Heap Go.Proofs.Sch

/-- The place of the first one; less than nought: there is none. -/
def idxI {α : Type} (q : α → Bool) (l : List α) : Int := match l.findIdx? q with | some i => (i : Int) | none => -1
theorem idx_at {α : Type} {q : α → Bool} {l : List α} {k : Nat} {x : α} (hx : l[k]? = some x) (hq : q x = true) (h : ∀ y ∈ l.take k, q y = false) : idxI q l = (k : Int) := by
  have : l.findIdx? q = some k := by
    rw [List.findIdx?_eq_some_iff_getElem]
    obtain ⟨hk, rfl⟩ := List.getElem?_eq_some_iff.1 hx
    refine ⟨hk, hq, fun j hj => ?_⟩
    have := h l[j] (by rw [List.mem_take_iff_getElem]; exact ⟨j, by omega, rfl⟩)
    simp [this]
  unfold idxI; rw [this]
theorem idx_none {α : Type} {q : α → Bool} {l : List α} (h : ∀ y ∈ l, q y = false) : idxI q l = -1 := by
  unfold idxI; rw [List.findIdx?_eq_none_iff.2 h]

end Go.Proofs.Ytkgkcnmnfhehfaa
