/- What is proved: the order of a binary heap in a list of numbers: one step down keeps it, the first is the least, and what a pop leaves is in order. -/
import Derived.WalkKit
namespace Go.Proofs.HeapLaw

def at_ (l : List Nat) (i : Nat) : Nat := l.getD i 0

/-- The first n stand in the order of a heap. -/
def Heap (l : List Nat) (n : Nat) : Prop := ∀ j, 0 < j → j < n → at_ l ((j - 1) / 2) ≤ at_ l j

/-- The same, but for who stands at i. -/
def But (l : List Nat) (n i : Nat) : Prop :=
  (∀ j, 0 < j → j < n → (j - 1) / 2 ≠ i → at_ l ((j - 1) / 2) ≤ at_ l j) ∧ (∀ j, 0 < j → j < n → (j - 1) / 2 = i → 0 < i → at_ l ((i - 1) / 2) ≤ at_ l j)

def swap (l : List Nat) (i j : Nat) : List Nat := (l.set i (at_ l j)).set j (at_ l i)

theorem swap_len (l : List Nat) (i j : Nat) : (swap l i j).length = l.length := by simp [swap]

theorem at_swap {l : List Nat} {i j k : Nat} (hi : i < l.length) (hj : j < l.length) : at_ (swap l i j) k = if k = j then at_ l i else if k = i then at_ l j else at_ l k := by
  unfold swap
  unfold at_
  simp only [List.getD, List.getElem?_set, List.length_set]
  by_cases h1 : j = k
  · subst h1; simp [hj]
  · rw [if_neg h1, if_neg (Ne.symm h1)]
    by_cases h2 : i = k
    · subst h2; simp [hi]
    · rw [if_neg h2, if_neg (Ne.symm h2)]

theorem swap_perm {l : List Nat} {i j : Nat} (hi : i < l.length) (hj : j < l.length) : (swap l i j).Perm l := by
  have h1 : at_ l j = l[j] := by simp [at_, List.getD, hj]
  have h2 : at_ l i = l[i] := by simp [at_, List.getD, hi]
  unfold swap
  rw [h1, h2]
  exact List.set_set_perm hi hj

theorem Heap.least {l : List Nat} {n : Nat} (h : Heap l n) : ∀ k, k < n → at_ l 0 ≤ at_ l k := by
  intro k
  induction k using Nat.strongRecOn with
  | ind k ih =>
    intro hk
    by_cases h0 : k = 0
    · subst h0; exact Nat.le_refl _
    · exact Nat.le_trans (ih ((k - 1) / 2) (by omega) (by omega)) (h k (by omega) hk)

/-- No child is less: all stand in order. -/
theorem But.stop {l : List Nat} {n i : Nat} (h : But l n i) (hc : ∀ j, 0 < j → j < n → (j - 1) / 2 = i → at_ l i ≤ at_ l j) : Heap l n := by
  intro j h0 hj
  by_cases e : (j - 1) / 2 = i
  · rw [e]; exact hc j h0 hj e
  · exact h.1 j h0 hj e

/-- The lesser child goes up. -/
theorem But.step {l : List Nat} {n i j : Nat} (h : But l n i) (hn : n ≤ l.length) (h0 : 0 < j) (hj : j < n) (hij : (j - 1) / 2 = i) (hlt : at_ l j < at_ l i) (hc : ∀ k, 0 < k → k < n → (k - 1) / 2 = i → at_ l j ≤ at_ l k) : But (swap l i j) n j := by
  have hi : i < j := by omega
  have key := fun k => at_swap (l := l) (i := i) (j := j) (k := k) (by omega) (by omega)
  constructor
  · intro k k0 kn kp
    rw [key, key]
    by_cases e1 : k = j
    · subst e1
      rw [if_pos rfl, if_neg (by omega), if_pos hij]
      omega
    · rw [if_neg e1, if_neg kp]
      by_cases e2 : k = i
      · subst e2
        rw [if_neg (by omega), if_pos rfl]
        exact h.2 j h0 hj hij k0
      · rw [if_neg e2]
        by_cases e3 : (k - 1) / 2 = i
        · rw [if_pos e3]; exact hc k k0 kn e3
        · rw [if_neg e3]; exact h.1 k k0 kn e3
  · intro k k0 kn kp j0
    rw [key, key, hij, if_neg (by omega), if_pos rfl, if_neg (by omega), if_neg (by omega)]
    have := h.1 k k0 kn (by omega)
    rw [kp] at this
    exact this

/-- The first and the last change places: in order but for the first. -/
theorem Heap.cut {l : List Nat} {n : Nat} (h : Heap l (n + 1)) (hl : l.length = n + 1) : But (swap l 0 n) n 0 := by
  have key := fun k => at_swap (l := l) (i := 0) (j := n) (k := k) (by omega) (by omega)
  refine ⟨fun j h0 hj hp => ?_, fun j _ _ _ h0 => absurd h0 (by omega)⟩
  rw [key, key, if_neg (by omega), if_neg (by omega), if_neg (by omega), if_neg (by omega)]
  exact h j h0 (by omega)

end Go.Proofs.HeapLaw
