/- What is proved: laws for a map from texts to ints that the call itself makes, said by a function. -/
import Derived.Test.YtcdmegaebcjnlaaHeap
import Derived.Maps.Own
import Derived.Maps.OwnOps
import Derived.Maps.Views
namespace Go.Proofs.SMap
open Go.RowKit Go.Proofs.Heap Go.WideMaps

/-- Block b is a map of at most n entries that holds f. -/
def SM (P : Program) (tK tE : TypeId) (w : World) (b n : Nat) (f : List UInt8 → Int) : Prop :=
  ∃ D : DataW Unit, w.ownsMap P tK (plainElem P tE) b n D ∧ Maps.IsMap D ∧ ∀ l, D.atKey (.string l) (.lit (.int .i64 0)) = .lit (.int .i64 (f l))

def put (f : List UInt8 → Int) (s : List UInt8) (v : Int) : List UInt8 → Int := fun l => if l = s then v else f l

section
variable {P : Program} {tK tE : TypeId} {w : World} {b n : Nat} {f : List UInt8 → Int}

theorem SM.made (w : World) : SM P tK tE (w.alloc (.map #[] 0)) w.heap.size 0 (fun _ => 0) :=
  ⟨_, World.ownsMap_made w P tK _, ⟨_, rfl⟩, fun _ => rfl⟩
theorem SM.lt (h : SM P tK tE w b n f) : b < w.heap.size := by obtain ⟨D, h1, _⟩ := h; exact h1.lt
theorem SM.keep {w' : World} (h : SM P tK tE w b n f) (hk : w'.heap[b]? = w.heap[b]?) : SM P tK tE w' b n f := by
  obtain ⟨D, ⟨es, clock, h1, h2⟩, h3⟩ := h
  exact ⟨D, ⟨es, clock, hk.trans h1, h2⟩, h3⟩
theorem SM.mono {n' : Nat} (h : SM P tK tE w b n f) (hn : n ≤ n') : SM P tK tE w b n' f := by
  obtain ⟨D, h1, h2⟩ := h
  exact ⟨D, h1.mono hn, h2⟩

/-- 'm[s]'. -/
theorem SM.look {t : TypeId} (h : SM P tK tE w b n f) (hk : P.underlying tK = some .string) (ht : P.underlying t = some (.map tK tE)) (he : P.underlying tE = some (.int .i64)) (hz : (zeroValue tE).run P w = .ok (.int .i64 0) w) (s : ByteArray) (hs : s.size ≤ maxLen) :
    (Instr.lookup t (.map (some b)) (.string s) false).run P w = .ok (.int .i64 (f s.data.toList)) w := by
  obtain ⟨D, h1, h2, h3⟩ := h
  obtain ⟨c, hrun, hat, _⟩ := h1.lookup_int (Maps.string_keyed hk) ht he hz (keyOf_string_mk hk hs)
  rw [h3] at hat
  injection hat with hat
  injection hat with _ hat
  rw [hrun, hat]

/-- 'm[s] = v', at the operation. -/
theorem wpList_sm_put {ops : Array Oper} {rest : List Oper} {o : Oper} {a : Act} {Q : Exit → Act → World → Prop} (hg : o.guard = none) (m x v : Operand) (t : TypeId) (hop : o.op = Op.mapUpdate t m x v)
    (hk : P.underlying tK = some .string) (ht : P.underlying t = some (.map tK tE)) (he : P.underlying tE = some (.int .i64))
    (h : SM P tK tE w b n f) (hn : n < maxLen) (hm : a.eval m = .map (some b)) (s : ByteArray) (hs : s.size ≤ maxLen) (hx : a.eval x = .string s) (c : Int) (hc : (Lit.int .i64 c).wf = true) (hv : a.eval v = .int .i64 c)
    (hK : ∀ w', SM P tK tE w' b (n + 1) (put f s.data.toList c) → w.grownBy w' (some b) → wpList P ops Q rest (a.put o.dst undef) w') : wpList P ops Q (o :: rest) a w := by
  obtain ⟨D, h1, h2, h3⟩ := h
  refine wpList_mapUpdate_own w hg m x v t hop tK tE (Maps.string_keyed hk) ht _ b n D hm h1 hn _ _ _ hx hv (keyOf_string_mk hk hs) _ [] (plainElem_int he hc) ?_
  intro w' g1 g2
  refine hK w' ⟨_, g1, ?_, fun l => ?_⟩ g2
  · obtain ⟨es, rfl⟩ := h2; exact ⟨_, rfl⟩
  · unfold put
    by_cases hl : l = s.data.toList
    · rw [if_pos hl, hl, Maps.atKey_put_same h2 (by trivial)]
    · rw [if_neg hl, Maps.atKey_put_other (fun e => hl (by injection e)), h3]
end
end Go.Proofs.SMap
