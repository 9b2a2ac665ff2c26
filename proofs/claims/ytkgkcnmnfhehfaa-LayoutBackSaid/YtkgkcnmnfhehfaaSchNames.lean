/- What is proved: what IsName of the schema and Name of the reference answer: whether a text is a name. -/
import Derived.Test.YtkgkcnmnfhehfaaRows
import Derived.WalkKit
import Derived.WalkSpells
import Derived.WalkLawsBesides
import Derived.Deep.Cut
import Derived.Deep.CutRange
import Derived.Deep.CutBlock
import Derived.Test.YtkgkcnmnfhehfaaHeap
namespace Go.Proofs.Ytkgkcnmnfhehfaa
open Go.RowKit Go.Proofs.Heap

def letN (x : Int) : Bool := decide (97 ≤ x) && decide (x ≤ 122)
def digN (x : Int) : Bool := decide (48 ≤ x) && decide (x ≤ 57)
def byteN (s : ByteArray) (i : Nat) : Int := ((s.get! i).toNat : Int)
/-- Whether a text is a name. -/
def nameB (s : ByteArray) : Bool := decide (1 ≤ s.size ∧ s.size ≤ 12 ∧ letN (byteN s 0) = true ∧ ∀ i, i < s.size → (letN (byteN s i) || digN (byteN s i)) = true)

theorem tl_eq (s : ByteArray) : s.toList = s.data.toList := ByteArray.toList_eq s
theorem empty_no {s : ByteArray} (h : s.size ≠ 0) : s.toList.isEmpty = false := by
  rw [tl_eq]
  cases e : s.data.toList with
  | nil => have e2 := congrArg List.length e; rw [Array.length_toList] at e2; exact absurd e2 h
  | cons _ _ => rfl
theorem empty_yes {s : ByteArray} (h : s.size = 0) : s.toList.isEmpty = true := by
  rw [tl_eq]
  cases e : s.data.toList with
  | nil => rfl
  | cons a l => have e2 := congrArg List.length e; rw [Array.length_toList] at e2; exact absurd (h.symm.trans e2) (by simp)
theorem seq_dec (a b : ByteArray) : (a.toList == b.toList) = decide (a = b) := by
  rw [tl_eq, tl_eq]
  by_cases h : a = b
  · subst h; simp
  · have : ¬ a.data.toList = b.data.toList := fun e => h (by cases a; cases b; simp at e; simp [e])
    rw [decide_eq_false h]
    simpa using this
theorem byte_at (s : ByteArray) (i : Nat) (h : i < s.size) : ((s[i]'h).toNat : Int) = byteN s i := by
  unfold byteN
  cases s with
  | mk d => rw [show (ByteArray.mk d).get! i = d[i]'h from getElem!_pos d i h]; rfl
theorem nameB_short {s : ByteArray} (h : s.size = 0 ∨ 12 < s.size) : nameB s = false := decide_eq_false (fun hh => by omega)
theorem nameB_first {s : ByteArray} (h : letN (byteN s 0) = false) : nameB s = false := decide_eq_false (fun hh => by rw [h] at hh; exact Bool.noConfusion hh.2.2.1)
theorem nameB_bad {s : ByteArray} {i : Nat} (hi : i < s.size) (h : (letN (byteN s i) || digN (byteN s i)) = false) : nameB s = false := decide_eq_false (fun hh => by have := hh.2.2.2 i hi; rw [h] at this; cases this)
theorem nameB_good {s : ByteArray} (h1 : 1 ≤ s.size) (h2 : s.size ≤ 12) (h3 : letN (byteN s 0) = true) (h4 : ∀ i, i < s.size → (letN (byteN s i) || digN (byteN s i)) = true) : nameB s = true := decide_eq_true ⟨h1, h2, h3, h4⟩

end Go.Proofs.Ytkgkcnmnfhehfaa
