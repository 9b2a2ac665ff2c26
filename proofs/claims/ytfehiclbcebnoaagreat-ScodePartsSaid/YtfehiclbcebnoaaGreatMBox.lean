/- What is proved: what a world is that some boxes are laid in; plain lemmas, no program. -/
import Derived.Test.YtfehiclbcebnoaaGreatMHeap
namespace Go.Proofs.YtfehiclbcebnoaaGreat
open Go.RowKit Go.Proofs.Heap Go.Proofs.Sch

theorem box1 (w : World) (c1 : Array Value) (t1 : TypeId) : ∃ w1, w1 = w.alloc (.cells c1 t1) ∧ w1.heap[w.heap.size]? = some (.cells c1 t1 (0, 0)) ∧ w1.heap.size = w.heap.size + 1 ∧ Keep (fun _ => False) w w1 :=
  ⟨_, rfl, heap_alloc_new w _, by simp, (Keep.refl _ w).alloc _⟩
theorem box2 (w : World) (c1 c2 : Array Value) (t1 t2 : TypeId) : ∃ w2, w2 = (w.alloc (.cells c1 t1)).alloc (.cells c2 t2) ∧ w2.heap[w.heap.size]? = some (.cells c1 t1 (0, 0)) ∧ w2.heap[w.heap.size + 1]? = some (.cells c2 t2 (0, 0)) ∧ w2.heap.size = w.heap.size + 2 ∧ Keep (fun _ => False) w w2 := by
  obtain ⟨w1, h1, h2, h3, h4⟩ := box1 w c1 t1
  obtain ⟨w2, k1, k2, k3, k4⟩ := box1 w1 c2 t2
  subst h1
  exact ⟨w2, k1, k4.get h2 id, by rw [← h3]; exact k2, by omega, h4.trans k4⟩
theorem box3 (w : World) (c1 c2 c3 : Array Value) (t1 t2 t3 : TypeId) : ∃ w3, w3 = ((w.alloc (.cells c1 t1)).alloc (.cells c2 t2)).alloc (.cells c3 t3) ∧ w3.heap[w.heap.size]? = some (.cells c1 t1 (0, 0)) ∧ w3.heap[w.heap.size + 1]? = some (.cells c2 t2 (0, 0)) ∧ w3.heap[w.heap.size + 1 + 1]? = some (.cells c3 t3 (0, 0)) ∧ w3.heap.size = w.heap.size + 3 ∧ Keep (fun _ => False) w w3 := by
  obtain ⟨w2, h1, h2, h3, h4, h5⟩ := box2 w c1 c2 t1 t2
  obtain ⟨w3, k1, k2, k3, k4⟩ := box1 w2 c3 t3
  subst h1
  exact ⟨w3, k1, k4.get h2 id, k4.get h3 id, by rw [← h4]; exact k2, by omega, h5.trans k4⟩
theorem box4 (w : World) (c1 c2 c3 c4 : Array Value) (t1 t2 t3 t4 : TypeId) : ∃ w4, w4 = (((w.alloc (.cells c1 t1)).alloc (.cells c2 t2)).alloc (.cells c3 t3)).alloc (.cells c4 t4) ∧ w4.heap[w.heap.size]? = some (.cells c1 t1 (0, 0)) ∧ w4.heap[w.heap.size + 1]? = some (.cells c2 t2 (0, 0)) ∧ w4.heap[w.heap.size + 1 + 1]? = some (.cells c3 t3 (0, 0)) ∧ w4.heap[w.heap.size + 1 + 1 + 1]? = some (.cells c4 t4 (0, 0)) ∧ w4.heap.size = w.heap.size + 4 ∧ Keep (fun _ => False) w w4 := by
  obtain ⟨w3, h1, h2, h3, h4, h5, h6⟩ := box3 w c1 c2 c3 t1 t2 t3
  obtain ⟨w4, k1, k2, k3, k4⟩ := box1 w3 c4 t4
  subst h1
  exact ⟨w4, k1, k4.get h2 id, k4.get h3 id, k4.get h4 id, by rw [← show _ = w.heap.size + 1 + 1 + 1 from h5]; exact k2, by omega, h6.trans k4⟩

theorem box5 (w : World) (c1 c2 c3 c4 c5 : Array Value) (t1 t2 t3 t4 t5 : TypeId) : ∃ w5, w5 = ((((w.alloc (.cells c1 t1)).alloc (.cells c2 t2)).alloc (.cells c3 t3)).alloc (.cells c4 t4)).alloc (.cells c5 t5) ∧ w5.heap[w.heap.size]? = some (.cells c1 t1 (0, 0)) ∧ w5.heap[w.heap.size + 1]? = some (.cells c2 t2 (0, 0)) ∧ w5.heap[w.heap.size + 1 + 1]? = some (.cells c3 t3 (0, 0)) ∧ w5.heap[w.heap.size + 1 + 1 + 1]? = some (.cells c4 t4 (0, 0)) ∧ w5.heap[w.heap.size + 1 + 1 + 1 + 1]? = some (.cells c5 t5 (0, 0)) ∧ w5.heap.size = w.heap.size + 5 ∧ Keep (fun _ => False) w w5 := by
  obtain ⟨w4, h1, h2, h3, h4, h5, h6, h7⟩ := box4 w c1 c2 c3 c4 t1 t2 t3 t4
  obtain ⟨w5, k1, k2, k3, k4⟩ := box1 w4 c5 t5
  subst h1
  exact ⟨w5, k1, k4.get h2 id, k4.get h3 id, k4.get h4 id, k4.get h5 id, by rw [← show _ = w.heap.size + 1 + 1 + 1 + 1 from h6]; exact k2, by omega, h7.trans k4⟩
end Go.Proofs.YtfehiclbcebnoaaGreat
