/- What is proved: the counts of who lives, who is free and who is retired; how often each id was given. -/
import Derived.Test.YtmckidhedogcaaaEntIxLaw
namespace Go.Proofs.Ytmckidhedogcaaa
open Go.RowKit Go.Proofs.HeapLaw

/-- How often an id was given. -/
def gvOf (G : Nat → Nat) (L : Nat → Bool) (j : Nat) : Nat := if L j = true then G j else G j - 1

theorem gv_kill (G : Nat → Nat) (L : Nat → Bool) (id : Nat) (h : L id = true) : gvOf (upd G id (G id + 1)) (upd L id false) = gvOf G L := by
  funext j
  unfold gvOf upd
  by_cases e : j = id
  · subst e; simp [h]
  · simp [e]

theorem gv_spawn (G : Nat → Nat) (L : Nat → Bool) (id : Nat) : gvOf G (upd L id true) = upd (gvOf G L) id (G id) := by
  funext j
  unfold gvOf upd
  by_cases e : j = id
  · subst e; simp
  · simp [e]

def retired (most : Nat) (G : Nat → Nat) (L : Nat → Bool) (j : Nat) : Bool := decide (1 ≤ j) && (!L j && decide (most < G j))

theorem count3 {n most : Nat} {G : Nat → Nat} {L : Nat → Bool} {F : List Nat} (h : Law n most G L F) : ∀ m, m ≤ n →
    ((List.range (m + 1)).filter L).length + ((List.range (m + 1)).filter (isFree most G L)).length + ((List.range (m + 1)).filter (retired most G L)).length = m := by
  intro m
  induction m with
  | zero =>
    intro _
    have h0 : L 0 = false := by
      cases e : L 0
      · rfl
      · have := (h.live 0 e).1; omega
    simp [List.range_succ, h0, isFree, retired]
  | succ m ih =>
    intro hm
    have := ih (by omega)
    rw [List.range_succ (n := m + 1), List.filter_append, List.filter_append, List.filter_append, List.length_append, List.length_append, List.length_append]
    have hx : ([m + 1].filter L).length + ([m + 1].filter (isFree most G L)).length + ([m + 1].filter (retired most G L)).length = 1 := by
      cases e : L (m + 1)
      · by_cases e2 : G (m + 1) ≤ most
        · simp [e, isFree, retired, e2, Nat.not_lt.2 e2]
        · simp [e, isFree, retired, e2, Nat.lt_of_not_le e2]
      · simp [e, isFree, retired]
    omega

theorem Law.counts {n most : Nat} {G : Nat → Nat} {L : Nat → Bool} {F : List Nat} (h : Law n most G L F) :
    ((List.range (n + 1)).filter L).length + F.length + ((List.range (n + 1)).filter (retired most G L)).length = n := by
  have := count3 h n (Nat.le_refl _)
  rw [h.perm.length_eq]; exact this

theorem ids_lt (L : Nat → Bool) (m i j : Nat) (hij : i < j) (hj : j < ((List.range m).filter L).length) : ((List.range m).filter L).getD i 0 < ((List.range m).filter L).getD j 0 := by
  have hp : ((List.range m).filter L).Pairwise (· < ·) := List.pairwise_lt_range.filter _
  have := List.pairwise_iff_getElem.1 hp i j (by omega) hj hij
  simpa [List.getD, hj, show i < ((List.range m).filter L).length by omega] using this

theorem ids_in (L : Nat → Bool) (m i : Nat) (hi : i < ((List.range m).filter L).length) : ((List.range m).filter L).getD i 0 < m ∧ L (((List.range m).filter L).getD i 0) = true := by
  have := List.getElem_mem hi
  have e : ((List.range m).filter L).getD i 0 = ((List.range m).filter L)[i] := by simp [List.getD, hi]
  rw [e]
  exact ⟨List.mem_range.1 (List.mem_filter.1 this).1, (List.mem_filter.1 this).2⟩

/-- Who is not free, below the least free id. -/
theorem Law.below {n most : Nat} {G : Nat → Nat} {L : Nat → Bool} {F : List Nat} (h : Law n most G L F) (k : Nat) (h1 : 1 ≤ k) (h2 : k < at_ F 0) (hn : at_ F 0 ≤ n) : L k = true ∨ G k = most + 1 := by
  cases e : L k
  · right
    have hno : k ∉ F := fun hx => by have := h.least hx; omega
    rw [h.mem] at hno
    have := h.low k h1 (by omega)
    by_cases e2 : G k ≤ most
    · exact absurd ⟨h1, by omega, e, e2⟩ hno
    · omega
  · exact .inl rfl
end Go.Proofs.Ytmckidhedogcaaa
