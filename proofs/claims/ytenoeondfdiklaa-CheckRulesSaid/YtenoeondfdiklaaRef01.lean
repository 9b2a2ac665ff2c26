/- What is proved: the reference's great numbers, digit by digit: what From and Size answer. -/
import Derived.Test.YtenoeondfdiklaaWide2
import Derived.Test.YtenoeondfdiklaaLay
import Derived.Test.YtenoeondfdiklaaRes
import Derived.Laws.Rows
namespace Go.Proofs.Ytenoeondfdiklaa
open Go.RowKit Go.Proofs.Heap Go.Proofs.Wide

/-- A digit of a size. -/
def dgN (m i : Nat) : Nat := m / 256 ^ i % 256
def ncell (b : Bool) (D : Nat → Nat) (i : Nat) : Value := if i = 0 then .bool b else iV (D (i - 1))
/-- The cells of a number. -/
def nC (b : Bool) (D : Nat → Nat) : Array Value := ((List.range 41).map (ncell b D)).toArray

section
variable (b : Bool) (D : Nat → Nat)
theorem nC_size : (nC b D).size = 41 := by simp [nC]
theorem nC_get (i : Nat) (h : i < 41) : (nC b D)[i]? = some (ncell b D i) := by simp [nC, h]
theorem nC_dig (i : Nat) (h : i < 40) : (nC b D)[1 + i]? = some (iV (D i)) := by
  rw [nC_get _ _ _ (by omega)]; unfold ncell; rw [if_neg (by omega), show 1 + i - 1 = i by omega]
theorem nC_ext {b' : Bool} {D' : Nat → Nat} (h1 : b = b') (h2 : ∀ i, i < 40 → D i = D' i) : nC b D = nC b' D' := by
  subst h1
  apply Array.ext_getElem?
  intro i
  by_cases hi : i < 41
  · rw [nC_get _ _ _ hi, nC_get _ _ _ hi]
    unfold ncell
    by_cases h0 : i = 0
    · rw [if_pos h0, if_pos h0]
    · rw [if_neg h0, if_neg h0, h2 _ (by omega)]
  · rw [Array.getElem?_eq_none (by rw [nC_size]; omega), Array.getElem?_eq_none (by rw [nC_size]; omega)]
theorem nC_set (j x : Nat) (h : j < 40) : (nC b D).setIfInBounds (1 + j) (iV x) = nC b (fun i => if i = j then x else D i) := by
  apply Array.ext_getElem?
  intro i
  rw [Array.getElem?_setIfInBounds, nC_size]
  by_cases e : 1 + j = i
  · subst e; rw [if_pos rfl, if_pos (by omega), nC_dig _ _ _ h]; simp
  · rw [if_neg e]
    by_cases hi : i < 41
    · rw [nC_get _ _ _ hi, nC_get _ _ _ hi]
      unfold ncell
      by_cases h0 : i = 0
      · rw [if_pos h0, if_pos h0]
      · rw [if_neg h0, if_neg h0]
        show some (iV (D (i - 1))) = some (iV (if i - 1 = j then x else D (i - 1)))
        rw [if_neg (by omega)]
    · rw [Array.getElem?_eq_none (by rw [nC_size]; omega), Array.getElem?_eq_none (by rw [nC_size]; omega)]
theorem nC_one : ∀ v ∈ (nC b D).toList, v.oneCell' = true := by
  intro v hv
  simp only [nC, List.mem_map, List.mem_range] at hv
  obtain ⟨i, _, rfl⟩ := hv
  unfold ncell
  split <;> rfl
theorem nC_neg (c : Bool) : (nC b D).setIfInBounds 0 (.bool c) = nC c D := by
  apply Array.ext_getElem?
  intro i
  rw [Array.getElem?_setIfInBounds, nC_size]
  by_cases e : 0 = i
  · subst e; rw [if_pos rfl, if_pos (by omega), nC_get _ _ _ (by omega)]; rfl
  · rw [if_neg e]
    by_cases hi : i < 41
    · rw [nC_get _ _ _ hi, nC_get _ _ _ hi]
      unfold ncell
      rw [if_neg (by omega), if_neg (by omega)]
    · rw [Array.getElem?_eq_none (by rw [nC_size]; omega), Array.getElem?_eq_none (by rw [nC_size]; omega)]
theorem nC_negL (c : Bool) : (nC b D).toList.set 0 (.bool c) = (nC c D).toList := by rw [← nC_neg b D c]; simp

variable {b D} {w : World} {u : Nat}
end

/-- Digits under way: k of each half. -/
def dgK (hi lo k j : Nat) : Nat := if j < k then lo / 256 ^ j % 256 else if 8 ≤ j ∧ j < 8 + k then hi / 256 ^ (j - 8) % 256 else 0
theorem dgK_next (hi lo k : Nat) (hk : k < 8) : (fun j => if j = 8 + k then hi / 256 ^ k % 256 else if j = k then lo / 256 ^ k % 256 else dgK hi lo k j) = dgK hi lo (k + 1) := by
  funext j
  unfold dgK
  by_cases h1 : j = 8 + k
  · subst h1
    rw [if_pos rfl, if_neg (by omega), if_pos (by omega), show 8 + k - 8 = k by omega]
  · rw [if_neg h1]
    by_cases h2 : j = k
    · subst h2
      rw [if_pos rfl, if_pos (by omega)]
    · rw [if_neg h2]
      by_cases h3 : j < k
      · rw [if_pos h3, if_pos (by omega)]
      · rw [if_neg h3, if_neg (show ¬ j < k + 1 by omega)]
        by_cases h4 : 8 ≤ j ∧ j < 8 + k
        · rw [if_pos h4, if_pos (by omega)]
        · rw [if_neg h4, if_neg (by omega)]
theorem dgK_end (hi lo : Nat) (h1 : hi < 18446744073709551616) (h2 : lo < 18446744073709551616) (j : Nat) : dgK hi lo 8 j = dgN (hi * 18446744073709551616 + lo) j := by
  unfold dgK dgN
  by_cases hj : j < 16
  · have hc : j = 0 ∨ j = 1 ∨ j = 2 ∨ j = 3 ∨ j = 4 ∨ j = 5 ∨ j = 6 ∨ j = 7 ∨ j = 8 ∨ j = 9 ∨ j = 10 ∨ j = 11 ∨ j = 12 ∨ j = 13 ∨ j = 14 ∨ j = 15 := by omega
    rcases hc with rfl | rfl | rfl | rfl | rfl | rfl | rfl | rfl | rfl | rfl | rfl | rfl | rfl | rfl | rfl | rfl <;> simp <;> omega
  · rw [if_neg (by omega), if_neg (by omega)]
    have : hi * 18446744073709551616 + lo < 256 ^ j := Nat.lt_of_lt_of_le (show _ < 256 ^ 16 by omega) (Nat.pow_le_pow_right (by decide) (by omega))
    rw [Nat.div_eq_of_lt this]

end Go.Proofs.Ytenoeondfdiklaa
