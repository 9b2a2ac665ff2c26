/- What is proved: a function's result that lies in a cell: what it is when it returns. -/
import Derived.Test.YtkgkcnmnfhehfaaRows
import Derived.WalkKit
import Derived.WalkSpells
import Derived.WalkLawsBesides
import Derived.Test.YtkgkcnmnfhehfaaHeap
import Derived.Laws.Rows
namespace Go.Proofs.Heap
open Go.RowKit

theorem results_c {fn : Func} {p : Tmp} {ty : TypeId} (h : fn.results = #[.cell p ty]) (tmps : Array Value) {P : Program} {w : World} {ad : Addr} {v : Value}
    (hp : tmps.getD p undef = .pointer (some ad)) (hl : (loadVar ty ad).run P w = .ok v w) : (results fn tmps).run P w = .ok v w := by
  have hp' : tmps[p]?.getD undef = .pointer (some ad) := by simpa using hp
  simp [results, h, hp', asAddr, hl]
theorem results_ct {fn : Func} {p u : Tmp} {ty : TypeId} (h : fn.results = #[.cell p ty, .tmp u]) (tmps : Array Value) {P : Program} {w : World} {ad : Addr} {v : Value}
    (hp : tmps.getD p undef = .pointer (some ad)) (hl : (loadVar ty ad).run P w = .ok v w) : (results fn tmps).run P w = .ok (.tuple #[v, tmps.getD u undef]) w := by
  have hp' : tmps[p]?.getD undef = .pointer (some ad) := by simpa using hp
  simp [results, h, hp', asAddr, hl]
theorem cells2 {w : World} {b : Nat} {t : TypeId} {v0 v1 : Value} (x0 x1 : Value) (h : w.heap[b]? = some (.cells #[v0, v1] t (0, 0))) :
    ((w.setCell ⟨b, 0, none⟩ x0).setCell ⟨b, 1, none⟩ x1).heap[b]? = some (.cells #[x0, x1] t (0, 0)) := by
  rw [hsc_same (hsc_same h 0 x0) 1 x1]; rfl
theorem cells3 {w : World} {b : Nat} {t : TypeId} {v0 v1 v2 : Value} (x0 x1 x2 : Value) (h : w.heap[b]? = some (.cells #[v0, v1, v2] t (0, 0))) :
    (((w.setCell ⟨b, 0, none⟩ x0).setCell ⟨b, 1, none⟩ x1).setCell ⟨b, 2, none⟩ x2).heap[b]? = some (.cells #[x0, x1, x2] t (0, 0)) := by
  rw [hsc_same (hsc_same (hsc_same h 0 x0) 1 x1) 2 x2]; rfl
theorem owns_mono {w : World} {base b' : Nat} {e : TypeId} {size : Nat} {v : Value} {n : Nat} {xs : List Value} (h : w.ownsRow base e size v n xs) (hb : b' ≤ base) : w.ownsRow b' e size v n xs := by
  obtain ⟨h1, h2⟩ := h
  refine ⟨h1, ?_⟩
  rcases h2 with h2 | ⟨g, cap, cur, h3, h4, h5⟩
  · exact .inl h2
  · exact .inr ⟨g, cap, cur, h3, by omega, h5⟩
/-- A walk that turned only what was new. -/
theorem keep_new {w0 w w' : World} {S : Nat → Prop} (h0 : Keep (fun _ => False) w0 w) (hk : Keep S w w') (hS : ∀ k, S k → w0.heap.size ≤ k) : Keep (fun _ => False) w0 w' :=
  h0.trans' hk (fun i hi h => absurd (hS i h) (by omega))
end Go.Proofs.Heap
