/- What is proved: the law EntityExact returns true, whatever the counts and the deeds. -/
import Derived.Test.YtmckidhedogcaaaEntExact
namespace Go.Proofs.Ytmckidhedogcaaa
open Go.RowKit Go.Proofs.Heap Go.Proofs.HeapLaw

theorem exact_true (ids gens : Int) (p : Option Addr) (len cap : Nat) (w : World)
    (hz : len = 0 ∨ ∃ b off, p = some ⟨b, off, none⟩ ∧ b < w.heap.size ∧ ∀ i, i < len → ∃ K I E, A3 w b (off + i * 3) K I E) :
    Calls Try.prog 6 #[.int .i64 ids, .int .i64 gens, .slice p len cap] w fun r w' => r = .returned (.bool true) ∧ Below w.heap.size w w' := by
  by_cases h : ids < 1 ∨ 256 < ids ∨ gens < 1 ∨ 65535 < gens
  · exact exact_out ids gens p len cap w h
  · obtain ⟨n, rfl⟩ := Int.eq_ofNat_of_zero_le (a := ids) (by omega)
    obtain ⟨m, rfl⟩ := Int.eq_ofNat_of_zero_le (a := gens) (by omega)
    exact exact_in n m p len cap w (by omega) (by omega) (by omega) (by omega) hz

end Go.Proofs.Ytmckidhedogcaaa
