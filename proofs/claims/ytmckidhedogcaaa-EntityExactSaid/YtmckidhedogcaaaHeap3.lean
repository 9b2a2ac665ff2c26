/- What is proved: more on owned rows: a block just laid is one. -/
import Derived.Test.YtmckidhedogcaaaHeap2
namespace Go.Proofs.Heap
open Go.RowKit

theorem owns_fresh {base : Nat} {e : TypeId} {n : Nat} {xs : List Value} (w : World) (hb : base ≤ w.heap.size) (hx : xs.length = n) (hm : n ≤ maxLen) :
    (w.alloc (.cells xs.toArray e)).ownsRow base e 1 (.slice (some ⟨w.heap.size, 0, none⟩) n n) n xs :=
  ⟨by simp [hx], .inr ⟨_, n, _, rfl, hb, heap_alloc_new w _, Nat.le_refl _, hm, by simp [hx], by simp [← hx]⟩⟩

end Go.Proofs.Heap
