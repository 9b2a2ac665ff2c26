/- What is proved: more on owned rows: a cell set, a shorter slice. -/
import Derived.Test.YtmckidhedogcaaaHeap
namespace Go.Proofs.Heap
open Go.RowKit

theorem owns_set {w : World} {base : Nat} {e : TypeId} {g c n : Nat} {xs : List Value} (h : w.ownsRow base e 1 (.slice (some ⟨g, 0, none⟩) n c) n xs) (k : Nat) (x : Value) (hk : k < n) :
    (w.setCell ⟨g, k, none⟩ x).ownsRow base e 1 (.slice (some ⟨g, 0, none⟩) n c) n (xs.set k x) := by
  rcases owns_block h with ⟨e1, _⟩ | ⟨g', c', cur, e1, hb, hg, hn, hm, hs, ht⟩
  · cases e1
  · injection e1 with e1 _ e2
    injection e1 with e1
    injection e1 with e1
    subst e1; subst e2
    refine ⟨by simpa using h.1, .inr ⟨g, c, _, rfl, hb, hsc_same hg k x, hn, hm, by simpa using hs, ?_⟩⟩
    rw [← ht, Array.toList_setIfInBounds]
    apply List.ext_getElem?
    intro j
    simp only [Nat.mul_one, List.getElem?_take, List.getElem?_set, List.length_take]
    split <;> split <;> simp_all <;> omega

/-- Its first elements. -/
theorem owns_take {w : World} {base : Nat} {e : TypeId} {p : Option Addr} {c n m : Nat} {xs : List Value} (h : w.ownsRow base e 1 (.slice p n c) n xs) (hm : m ≤ n) (hp : p ≠ none) :
    w.ownsRow base e 1 (.slice p m c) m (xs.take m) := by
  rcases owns_block h with ⟨e1, _⟩ | ⟨g', c', cur, e1, hb, hg, hn, hm2, hs, ht⟩
  · injection e1 with e1; exact absurd e1 hp
  · injection e1 with e1 _ e2
    subst e1; subst e2
    have hl := h.1
    refine ⟨by simp; omega, .inr ⟨g', c, cur, rfl, hb, hg, by omega, hm2, hs, ?_⟩⟩
    rw [← ht, List.take_take]
    congr 1
    omega

end Go.Proofs.Heap
