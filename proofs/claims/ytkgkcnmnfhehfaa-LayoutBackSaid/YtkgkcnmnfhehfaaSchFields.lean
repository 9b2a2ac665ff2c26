/- What is proved: what the schema's check of fields answers. -/
import Derived.Test.YtkgkcnmnfhehfaaLay
import Derived.Test.YtkgkcnmnfhehfaaMapStr
namespace Go.Proofs.Ytkgkcnmnfhehfaa
open Go.RowKit Go.Proofs.Heap Go.Proofs.Sch Go.Proofs.TMap

/-- Whether a text is in a list. -/
def memB (s : ByteArray) (ns : List ByteArray) : Bool := ns.any (fun m => decide (s = m))
/-- Whether names stop a check: one isn't a name, or was there. -/
def fldBad : List ByteArray → List Fld → Bool
  | _, [] => false
  | seen, f :: r => !nameB f.name || (memB f.name seen || fldBad (seen ++ [f.name]) r)
/-- The error of fields with their names. -/
def fieldsC (fs : List Fld) : Nat := if fldBad [] fs = true then 4 else layC fs

def seenF (ns : List ByteArray) : List UInt8 → Bool := fun l => ns.any (fun m => decide (l = m.data.toList))
theorem seenF_mem (ns : List ByteArray) (s : ByteArray) : seenF ns s.data.toList = memB s ns := by
  have h : ∀ m : ByteArray, (s.data.toList = m.data.toList) ↔ s = m := fun m => ⟨fun e => by cases s; cases m; simp at e; simp [e], fun e => e ▸ rfl⟩
  unfold seenF memB
  congr 1
  funext m
  simp only [h m]
theorem seenF_put (ns : List ByteArray) (s : ByteArray) : (fun l => decide (l = s.data.toList) || seenF ns l) = seenF (ns ++ [s]) := by
  funext l
  unfold seenF
  rw [List.any_append]
  simp [Bool.or_comm]
theorem drop_next {α : Type} {l : List α} {k : Nat} {x : α} (h : l[k]? = some x) : l.drop k = x :: l.drop (k + 1) := by
  obtain ⟨hk, rfl⟩ := List.getElem?_eq_some_iff.1 h
  exact List.drop_eq_getElem_cons hk
theorem nameB_size {s : ByteArray} (h : nameB s = true) : s.size ≤ 12 := (of_decide_eq_true h).2.1
theorem zero_bool (w : World) : (zeroValue 4).run Try.prog w = .ok (.bool false) w := by kernel_rfl

abbrev TS := TM Try.prog 9 4

end Go.Proofs.Ytkgkcnmnfhehfaa
