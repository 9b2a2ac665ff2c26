/- What is proved: laws for a map from texts to bools that the call itself makes, said by a function. -/
import Derived.Test.YtkgkcnmnfhehfaaHeap
import Derived.Maps.Own
import Derived.Maps.OwnOps
import Derived.Maps.OwnSet
import Derived.Maps.Views
namespace Go.Proofs.TMap
open Go.RowKit Go.Proofs.Heap Go.WideMaps

/-- Block b is a map of at most n entries, true just where f is. -/
def TM (P : Program) (tK tE : TypeId) (w : World) (b n : Nat) (f : List UInt8 → Bool) : Prop :=
  ∃ D : DataW Unit, w.ownsMap P tK (plainElem P tE) b n D ∧ Maps.IsMap D ∧ ∀ l, D.atKey (.string l) (.lit (.bool false)) = .lit (.bool (f l))

section
variable {P : Program} {tK tE : TypeId} {w : World} {b n : Nat} {f : List UInt8 → Bool}

theorem TM.made (w : World) : TM P tK tE (w.alloc (.map #[] 0)) w.heap.size 0 (fun _ => false) :=
  ⟨_, World.ownsMap_made w P tK _, ⟨_, rfl⟩, fun _ => rfl⟩
theorem TM.lt (h : TM P tK tE w b n f) : b < w.heap.size := by obtain ⟨D, h1, _⟩ := h; exact h1.lt
theorem TM.keep {w' : World} (h : TM P tK tE w b n f) (hk : w'.heap[b]? = w.heap[b]?) : TM P tK tE w' b n f := by
  obtain ⟨D, ⟨es, clock, h1, h2⟩, h3⟩ := h
  exact ⟨D, ⟨es, clock, hk.trans h1, h2⟩, h3⟩

/-- 'm[s]'. -/
theorem TM.look {t : TypeId} (h : TM P tK tE w b n f) (hk : P.underlying tK = some .string) (ht : P.underlying t = some (.map tK tE)) (he : P.underlying tE = some .bool) (hz : (zeroValue tE).run P w = .ok (.bool false) w) (s : ByteArray) (hs : s.size ≤ maxLen) :
    (Instr.lookup t (.map (some b)) (.string s) false).run P w = .ok (.bool (f s.data.toList)) w := by
  obtain ⟨D, h1, h2, h3⟩ := h
  obtain ⟨v, ps, hrun, hv⟩ := h1.lookup (Maps.string_keyed hk) ht hz (plainElem_bool he false) (keyOf_string_mk hk hs)
  rw [h3] at hv
  rw [hrun]
  cases v <;> simp [plainElem, he] at hv
  · rw [hv.1]

/-- 'm[s] = true', at the operation. -/
theorem wpList_tm_put {ops : Array Oper} {rest : List Oper} {o : Oper} {a : Act} {Q : Exit → Act → World → Prop} (hg : o.guard = none) (m x v : Operand) (t : TypeId) (hop : o.op = Op.mapUpdate t m x v)
    (hk : P.underlying tK = some .string) (ht : P.underlying t = some (.map tK tE)) (he : P.underlying tE = some .bool)
    (h : TM P tK tE w b n f) (hn : n < maxLen) (hm : a.eval m = .map (some b)) (s : ByteArray) (hs : s.size ≤ maxLen) (hx : a.eval x = .string s) (hv : a.eval v = .bool true)
    (hK : ∀ w', TM P tK tE w' b (n + 1) (fun l => decide (l = s.data.toList) || f l) → w.grownBy w' (some b) → wpList P ops Q rest (a.put o.dst undef) w') : wpList P ops Q (o :: rest) a w := by
  obtain ⟨D, h1, h2, h3⟩ := h
  refine wpList_mapUpdate_own w hg m x v t hop tK tE (Maps.string_keyed hk) ht _ b n D hm h1 hn _ _ _ hx hv (keyOf_string_mk hk hs) _ [] (plainElem_bool he true) ?_
  intro w' g1 g2
  refine hK w' ⟨_, g1, ?_, fun l => ?_⟩ g2
  · obtain ⟨es, rfl⟩ := h2; exact ⟨_, rfl⟩
  · by_cases hl : l = s.data.toList
    · rw [hl, Maps.atKey_put_same h2 (by trivial)]; simp
    · rw [Maps.atKey_put_other (fun e => hl (by injection e)), h3]; simp [hl]
end
end Go.Proofs.TMap
