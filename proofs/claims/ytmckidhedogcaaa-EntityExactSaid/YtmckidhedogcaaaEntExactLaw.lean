/- What is proved: in plain numbers: the index of ids and the document's index, slot by slot, answer the same. -/
import Derived.Test.YtmckidhedogcaaaEntLeast
import Derived.Test.YtmckidhedogcaaaEntRef2
namespace Go.Proofs.Ytmckidhedogcaaa
open Go.RowKit Go.Proofs.HeapLaw

/-- The document's generation, and whether it is retired. -/
def rgOf (n most : Nat) (G : Nat → Nat) (i : Nat) : Nat := if 1 ≤ i ∧ i ≤ n then min (G i) most else 0
def rrOf (n most : Nat) (G : Nat → Nat) (i : Nat) : Bool := decide ((1 ≤ i ∧ i ≤ n) ∧ most < G i)

section
variable {n most : Nat} {G : Nat → Nat} {L : Nat → Bool} {F : List Nat}

theorem rg_new (h1 : 1 ≤ most) : rgOf n most G0 = fun i => if 1 ≤ i ∧ i ≤ n then 1 else 0 := by
  funext i
  unfold rgOf G0
  by_cases h : 1 ≤ i ∧ i ≤ n
  · rw [if_pos h, if_pos h, if_neg (by omega)]; omega
  · rw [if_neg h, if_neg h]
theorem rr_new (h1 : 1 ≤ most) : rrOf n most G0 = fun _ => false := by
  funext i
  unfold rrOf G0
  simp
  intro a b
  rw [if_neg (by omega)]; exact h1

theorem rg_live (h : Law n most G L F) {i : Nat} (hi : L i = true) : rgOf n most G i = G i := by
  obtain ⟨a, b, c⟩ := h.live i hi
  unfold rgOf
  rw [if_pos ⟨a, b⟩]; omega
theorem rg_free (h : Law n most G L F) {i : Nat} (hi : i ∈ F) : rgOf n most G i = G i := by
  obtain ⟨a, b, c, d⟩ := (h.mem i).1 hi
  unfold rgOf
  rw [if_pos ⟨a, b⟩]; omega
theorem rg_small (h : Law n most G L F) (i : Nat) : rgOf n most G i ≤ 65536 := by
  have := h.m2
  unfold rgOf
  split <;> omega
theorem rg_one (h : Law n most G L F) (i : Nat) (h1 : 1 ≤ i) (h2 : i ≤ n) : 1 ≤ rgOf n most G i := by
  have := h.low i h1 h2
  have := h.m1
  unfold rgOf
  rw [if_pos ⟨h1, h2⟩]; omega

theorem alive_same (h : Law n most G L F) (e : Nat) : aliveB (rgOf n most G) L e = aliveB G L e := by
  unfold aliveB
  cases hL : L (e % 4294967296)
  · rfl
  · rw [rg_live h hL]

theorem liveV_same (h : Law n most G L F) (k : Nat) : liveV (rgOf n most G) L k = liveV G L k := by
  unfold liveV
  refine List.map_congr_left fun i hi => ?_
  rw [rg_live h (List.mem_filter.1 hi).2]

theorem free_same (h : Law n most G L F) : ((List.range (n + 1)).filter (freeR L (rrOf n most G))).length = F.length := by
  rw [h.perm.length_eq]
  congr 1
  refine List.filter_congr fun i hi => ?_
  have hi2 := List.mem_range.1 hi
  unfold freeR isFree rrOf
  by_cases h1 : 1 ≤ i
  · by_cases h2 : G i ≤ most
    · simp [h1, h2, Nat.not_lt.2 h2]
    · simp [h1, h2, Nat.lt_of_not_le h2, show i ≤ n by omega]
  · simp [h1]

/-- None is free. -/
theorem none_free (h : Law n most G L F) (hall : ∀ i, 1 ≤ i → i ≤ n → L i = true ∨ rrOf n most G i = true) : F = [] := by
  cases F with
  | nil => rfl
  | cons x F' =>
    obtain ⟨a, b, c, d⟩ := (h.mem x).1 (by simp)
    rcases hall x a b with e | e
    · rw [c] at e; cases e
    · unfold rrOf at e; simp at e; omega

/-- The first that is free. -/
theorem first_free (h : Law n most G L F) {j : Nat} (h1 : 1 ≤ j) (h2 : j ≤ n) (h3 : L j = false) (h4 : rrOf n most G j = false) (hall : ∀ i, 1 ≤ i → i < j → L i = true ∨ rrOf n most G i = true) : F ≠ [] ∧ at_ F 0 = j := by
  have hj : j ∈ F := (h.mem j).2 ⟨h1, h2, h3, by unfold rrOf at h4; simp at h4; exact h4 h1 h2⟩
  have hne : F ≠ [] := fun e => by rw [e] at hj; cases hj
  refine ⟨hne, ?_⟩
  have hle := h.least hj
  by_cases e : at_ F 0 = j
  · exact e
  · have hm := at_mem (F := F) (i := 0) (List.length_pos_iff.2 hne)
    obtain ⟨a, b, c, d⟩ := (h.mem _).1 hm
    rcases hall (at_ F 0) a (by omega) with e | e
    · rw [c] at e; cases e
    · unfold rrOf at e; simp at e; omega

/-- Somebody ends for good. -/
theorem kill_last (h : Law n most G L F) {id : Nat} (hL : L id = true) (hg : rgOf n most G id = most) : most < G id + 1 ∧ rgOf n most (upd G id (G id + 1)) = rgOf n most G ∧ rrOf n most (upd G id (G id + 1)) = upd (rrOf n most G) id true := by
  rw [rg_live h hL] at hg
  obtain ⟨a, b, c⟩ := h.live id hL
  refine ⟨by omega, ?_, ?_⟩
  · funext i
    unfold rgOf
    by_cases e : i = id
    · subst e; rw [if_pos ⟨a, b⟩, if_pos ⟨a, b⟩, upd_same]; omega
    · rw [upd_ne _ _ e]
  · funext i
    by_cases e : i = id
    · subst e; unfold rrOf; rw [upd_same, upd_same]; simp; omega
    · unfold rrOf; rw [upd_ne _ _ e, upd_ne _ _ e]

/-- Somebody ends, and the id goes on. -/
theorem kill_on (h : Law n most G L F) {id : Nat} (hL : L id = true) (hg : rgOf n most G id ≠ most) : G id + 1 ≤ most ∧ rgOf n most (upd G id (G id + 1)) = upd (rgOf n most G) id (rgOf n most G id + 1) ∧ rrOf n most (upd G id (G id + 1)) = rrOf n most G := by
  have hgl := rg_live h hL
  obtain ⟨a, b, c⟩ := h.live id hL
  rw [hgl] at hg
  refine ⟨by omega, ?_, ?_⟩
  · funext i
    by_cases e : i = id
    · subst e; rw [upd_same, hgl]; unfold rgOf; rw [if_pos ⟨a, b⟩, upd_same]; omega
    · unfold rgOf; rw [upd_ne _ _ e, upd_ne _ _ e]
  · funext i
    by_cases e : i = id
    · subst e; unfold rrOf; rw [upd_same]
      have h1 : ¬ most < G i + 1 := by omega
      have h2 : ¬ most < G i := by omega
      simp [h1, h2]
    · unfold rrOf; rw [upd_ne _ _ e]
end
end Go.Proofs.Ytmckidhedogcaaa
