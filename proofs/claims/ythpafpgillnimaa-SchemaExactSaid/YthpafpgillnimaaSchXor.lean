/- What is proved: a number with its last bit turned is another one. -/
import Derived.Test.YthpafpgillnimaaSchOwn
import Derived.Laws.BitsLemmas
namespace Go.Proofs.Ythpafpgillnimaa
open Go.RowKit

theorem ofInt_wrap (n : Int) : BitVec.ofInt 64 (IntKind.i64.wrap n) = BitVec.ofInt 64 n := by
  rw [IntKind.wrap_i64]
  apply BitVec.eq_of_toInt_eq
  rw [BitVec.toInt_ofInt, BitVec.toInt_ofInt]
  simp only [Int.bmod]
  omega

theorem xor_one_ne (x : Int) : bits .xor .i64 x 1 ≠ x := by
  intro h
  have h2 : BitVec.ofInt 64 (bits .xor .i64 x 1) = BitVec.ofInt 64 x := by rw [h]
  unfold bits at h2
  simp only at h2
  rw [ofInt_wrap, BitVec.ofInt_natCast, BitVec.ofNat_toNat] at h2
  have h4 : BitVec.setWidth 64 (BitVec.ofInt 64 x ^^^ BitVec.ofInt 64 1) = BitVec.ofInt 64 x := h2
  have h3 := congrArg (fun b => BitVec.getLsbD b 0) h4
  generalize BitVec.ofInt 64 x = b at h3
  simp at h3
end Go.Proofs.Ythpafpgillnimaa
