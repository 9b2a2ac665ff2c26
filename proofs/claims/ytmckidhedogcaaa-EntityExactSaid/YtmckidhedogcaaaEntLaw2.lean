/- What is proved: one step up in a binary heap keeps its order; a push begins it. -/
import Derived.Test.YtmckidhedogcaaaEntLaw
namespace Go.Proofs.HeapLaw

/-- The order of a heap, but between j and its parent. -/
def ButUp (l : List Nat) (n j : Nat) : Prop :=
  (∀ k, 0 < k → k < n → k ≠ j → at_ l ((k - 1) / 2) ≤ at_ l k) ∧ (∀ k, 0 < k → k < n → (k - 1) / 2 = j → 0 < j → at_ l ((j - 1) / 2) ≤ at_ l k)

theorem ButUp.stop {l : List Nat} {n j : Nat} (h : ButUp l n j) (hs : j = 0 ∨ at_ l ((j - 1) / 2) ≤ at_ l j) : Heap l n := by
  intro k h0 hk
  by_cases e : k = j
  · subst e
    rcases hs with e | e
    · omega
    · exact e
  · exact h.1 k h0 hk e

theorem ButUp.step {l : List Nat} {n i j : Nat} (h : ButUp l n j) (hn : n ≤ l.length) (h0 : 0 < j) (hj : j < n) (hi : (j - 1) / 2 = i) (hlt : at_ l j < at_ l i) : ButUp (swap l i j) n i := by
  have key := fun k => at_swap (l := l) (i := i) (j := j) (k := k) (by omega) (by omega)
  constructor
  · intro k k0 kn ki
    rw [key, key]
    by_cases e1 : k = j
    · subst e1
      rw [if_neg (by omega), if_pos hi, if_pos rfl]; omega
    · rw [if_neg e1, if_neg ki]
      have hk := h.1 k k0 kn e1
      by_cases e2 : (k - 1) / 2 = j
      · rw [if_pos e2]
        have := h.2 k k0 kn e2 h0
        rw [hi] at this; exact this
      · rw [if_neg e2]
        by_cases e3 : (k - 1) / 2 = i
        · rw [if_pos e3]; rw [e3] at hk; omega
        · rw [if_neg e3]; exact hk
  · intro k k0 kn kp i0
    have hpi := h.1 i i0 (by omega) (by omega)
    rw [key, key, if_neg (by omega), if_neg (by omega)]
    by_cases e1 : k = j
    · rw [if_pos e1]; exact hpi
    · rw [if_neg e1, if_neg (by omega)]
      have hk := h.1 k k0 kn e1
      rw [kp] at hk
      omega

/-- One more at the end. -/
theorem Heap.push {l : List Nat} (h : Heap l l.length) (x : Nat) : ButUp (l ++ [x]) (l.length + 1) l.length := by
  have e : ∀ k, k < l.length → at_ (l ++ [x]) k = at_ l k := fun k hk => by simp [at_, List.getD, List.getElem?_append_left hk]
  refine ⟨fun k k0 kn hk => ?_, fun k k0 kn hk j0 => by omega⟩
  rw [e _ (by omega), e _ (by omega)]
  exact h k k0 (by omega)

end Go.Proofs.HeapLaw
