/- What is proved: what made, OfWord, Of, Neg, check, fit of the great numbers answer, and Add and Sub where both are less than nought. -/
import Derived.Test.YtdekdefjfaoclaaDoorWide
import Derived.Test.YtdekdefjfaoclaaDoorRegion
import Derived.Laws.Externs
namespace Go.Proofs.YtdekdefjfaoclaaDoor
open Go.RowKit Go.Proofs.Heap Go.Proofs.Wide

abbrev Z3 : Array Value := #[.bool false, .int .u64 0, .int .u64 0]
def normW (ng : Bool) (hi lo : Nat) : WI := ⟨ng && decide (hi * 18446744073709551616 + lo ≠ 0), hi, lo⟩

end Go.Proofs.YtdekdefjfaoclaaDoor

namespace Go.Proofs.YtdekdefjfaoclaaDoor
open Go.RowKit Go.Proofs.Heap Go.Proofs.Wide

theorem neg_form (a : Nat) (ha : 0 < a) : WI.form ⟨true, 0, a⟩ = true := by
  unfold WI.form WI.mag
  simp
  omega
theorem normW_neg (a : Nat) (ha : 0 < a) : normW true 0 a = ⟨true, 0, a⟩ := by
  unfold normW
  have : decide (0 * 18446744073709551616 + a ≠ 0) = true := decide_eq_true (by omega)
  rw [this]; rfl

end Go.Proofs.YtdekdefjfaoclaaDoor

namespace Go.Proofs.YtdekdefjfaoclaaDoor
open Go.RowKit Go.Proofs.Heap Go.Proofs.Wide

theorem pos_form (a : Nat) : WI.form ⟨false, 0, a⟩ = true := by
  unfold WI.form
  simp
/-- A kind's greatest number. -/
def greatN (k : Int) : Nat := if k = 1 then 1 else if k = 2 then 127 else if k = 3 then 32767 else if k = 4 then 2147483647 else if k = 5 then 9223372036854775807 else if k = 6 then 255 else if k = 7 then 65535 else if k = 8 then 4294967295 else 18446744073709551615

end Go.Proofs.YtdekdefjfaoclaaDoor

namespace Go.Proofs.YtdekdefjfaoclaaDoor
open Go.RowKit Go.Proofs.Heap Go.Proofs.Wide

end Go.Proofs.YtdekdefjfaoclaaDoor

namespace Go.Proofs.YtdekdefjfaoclaaDoor
open Go.RowKit Go.Proofs.Heap Go.Proofs.Wide

def leastW (k : Int) : WI := if signK k = true then ⟨true, 0, greatN k + 1⟩ else ⟨false, 0, 0⟩
def greatW (k : Int) : WI := ⟨false, 0, greatN k⟩
theorem greatN_lt (k : Int) : greatN k < 18446744073709551616 := by
  unfold greatN
  repeat' split
  all_goals decide
theorem greatN_sign {k : Int} (h : signK k = true) : 0 < greatN k ∧ greatN k + 1 < 18446744073709551616 := by
  have := of_decide_eq_true h
  have hk : k = 2 ∨ k = 3 ∨ k = 4 ∨ k = 5 := by omega
  rcases hk with rfl | rfl | rfl | rfl <;> decide
theorem greatW_fit (k : Int) : (greatW k).fit := ⟨(by decide : (0 : Nat) < 18446744073709551616), greatN_lt k⟩
theorem leastW_fit (k : Int) : (leastW k).fit := by
  unfold leastW
  cases h : signK k
  · rw [if_neg (by simp)]; exact ⟨(by decide : (0 : Nat) < 18446744073709551616), (by decide : (0 : Nat) < 18446744073709551616)⟩
  · rw [if_pos rfl]; exact ⟨(by decide : (0 : Nat) < 18446744073709551616), (greatN_sign h).2⟩
theorem greatW_form (k : Int) : (greatW k).form = true := pos_form _
theorem leastW_form (k : Int) : (leastW k).form = true := by
  unfold leastW
  cases h : signK k
  · rw [if_neg (by simp)]; exact pos_form 0
  · rw [if_pos rfl]; exact neg_form _ (by omega)

theorem field_sign (s : ByteArray) (z : Int) (g : Bool) (w : World) : (Instr.field 110 (.agg #[.string s, .int .i64 z, .bool g]) 2).run Tryd.prog w = .ok (.bool g) w := by kernel_rfl

/-- Whether a number fits a kind. -/
def fitsB (k : Int) (x : WI) : Bool := kindB k && (x.form && (decide (0 ≤ cmpW x (leastW k)) && decide (cmpW x (greatW k) ≤ 0)))

end Go.Proofs.YtdekdefjfaoclaaDoor
