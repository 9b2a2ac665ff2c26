/- What is proved: laws for a map from unsigned numbers to bools that the call itself makes, said by a function and a count. -/
import Derived.Test.YtmckidhedogcaaaHeap
import Derived.Maps.Own
import Derived.Maps.OwnOps
import Derived.Maps.OwnSet
import Derived.Maps.Views
namespace Go.Proofs.BMap
open Go.RowKit Go.Proofs.Heap Go.WideMaps

/-- Block b is a map of n entries, true just where f is. -/
def BM (P : Program) (tK tE : TypeId) (w : World) (b n : Nat) (f : Nat → Bool) : Prop :=
  ∃ D : DataW Unit, w.ownsMap P tK (plainElem P tE) b n D ∧ Maps.size D = n ∧ ∀ x : Nat, D.atKey (.int .u64 x) (.lit (.bool false)) = .lit (.bool (f x)) ∧ (f x = false → Maps.has D (.int .u64 x) = false)

section
variable {P : Program} {tK tE : TypeId} {w : World} {b n : Nat} {f : Nat → Bool}

theorem BM.made (w : World) : BM P tK tE (w.alloc (.map #[] 0)) w.heap.size 0 (fun _ => false) :=
  ⟨_, World.ownsMap_made w P tK _, rfl, fun _ => ⟨rfl, fun _ => rfl⟩⟩
theorem BM.lt (h : BM P tK tE w b n f) : b < w.heap.size := by obtain ⟨D, h1, _⟩ := h; exact h1.lt
theorem BM.keep {w' : World} (h : BM P tK tE w b n f) (hk : w'.heap[b]? = w.heap[b]?) : BM P tK tE w' b n f := by
  obtain ⟨D, ⟨es, clock, h1, h2⟩, h3⟩ := h
  exact ⟨D, ⟨es, clock, hk.trans h1, h2⟩, h3⟩

theorem wf64 {x : Nat} (h : x < 18446744073709551616) : (Lit.int .u64 (x : Int)).wf = true := by
  have h1 : IntKind.u64.min = 0 := by decide
  have h2 : IntKind.u64.max = 18446744073709551615 := by decide
  simp [Lit.wf]
  omega

/-- 'm[x]'. -/
theorem BM.look {t : TypeId} (h : BM P tK tE w b n f) (hk : P.underlying tK = some (.int .u64)) (ht : P.underlying t = some (.map tK tE)) (he : P.underlying tE = some .bool) (hz : (zeroValue tE).run P w = .ok (.bool false) w) {x : Nat} (hx : x < 18446744073709551616) :
    (Instr.lookup t (.map (some b)) (.int .u64 (x : Int)) false).run P w = .ok (.bool (f x)) w := by
  obtain ⟨D, h1, h2, h3⟩ := h
  obtain ⟨v, ps, hrun, hv⟩ := h1.lookup (Maps.int_keyed hk) ht hz (plainElem_bool he false) (Maps.keyOf_int_mk hk (wf64 hx))
  rw [(h3 x).1] at hv
  rw [hrun]
  cases v <;> simp [plainElem, he] at hv
  · rw [hv.1]

/-- 'len(m)'. -/
theorem BM.len {t ty : TypeId} (h : BM P tK tE w b n f) (ht : P.underlying t = some (.map tK tE)) : (Builtin.len_ #[t] ty #[.map (some b)]).run P w = .ok (.int .i64 (n : Int)) w := by
  obtain ⟨D, h1, h2, h3⟩ := h
  have := h1.len ht ty
  rwa [h2] at this

/-- 'm[x] = true', at the operation: x is new. -/
theorem wpList_bm_put {ops : Array Oper} {rest : List Oper} {o : Oper} {a : Act} {Q : Exit → Act → World → Prop} (hg : o.guard = none) (m x v : Operand) (t : TypeId) (hop : o.op = Op.mapUpdate t m x v)
    (hk : P.underlying tK = some (.int .u64)) (ht : P.underlying t = some (.map tK tE)) (he : P.underlying tE = some .bool)
    (h : BM P tK tE w b n f) (hn : n < maxLen) (hm : a.eval m = .map (some b)) (e : Nat) (hs : e < 18446744073709551616) (hx : a.eval x = .int .u64 (e : Int)) (hnew : f e = false) (hv : a.eval v = .bool true)
    (hK : ∀ w', BM P tK tE w' b (n + 1) (fun y => decide (y = e) || f y) → w.grownBy w' (some b) → wpList P ops Q rest (a.put o.dst undef) w') : wpList P ops Q (o :: rest) a w := by
  obtain ⟨D, h1, h2, h3⟩ := h
  have hty := h1.tidy (Maps.int_keyed hk)
  refine wpList_mapUpdate_own w hg m x v t hop tK tE (Maps.int_keyed hk) ht _ b n D hm h1 hn _ _ _ hx hv (Maps.keyOf_int_mk hk (wf64 hs)) _ [] (plainElem_bool he true) ?_
  intro w' g1 g2
  refine hK w' ⟨_, g1, ?_, fun y => ?_⟩ g2
  · rw [Maps.size_put hty, (h3 e).2 hnew, h2]; rfl
  · by_cases hy : y = e
    · subst hy
      simp only [decide_true, Bool.true_or]
      exact ⟨Maps.atKey_put_same hty.isMap (by trivial) _ _, fun h => by cases h⟩
    · have hne : Lit.int .u64 (y : Int) ≠ Lit.int .u64 (e : Int) := fun h => hy (by injection h; omega)
      simp only [hy, decide_false, Bool.false_or]
      rw [Maps.atKey_put_other hne, Maps.has_put_other hne]
      exact h3 y
end
end Go.Proofs.BMap
