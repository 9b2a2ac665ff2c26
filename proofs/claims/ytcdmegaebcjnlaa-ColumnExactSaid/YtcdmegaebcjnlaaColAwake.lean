/- What is proved: 'awake' of the column's statements returns true. -/
import Derived.Test.YtcdmegaebcjnlaaColTop
namespace Go.Proofs.Ytcdmegaebcjnlaa
open Go.RowKit Go.Proofs.Heap Go.Proofs.Col

def sAA : ByteArray := ⟨#[97, 97]⟩
def sBB : ByteArray := ⟨#[98, 98]⟩
def sCC : ByteArray := ⟨#[99, 99]⟩
def sDD : ByteArray := ⟨#[100, 100]⟩
def sX : ByteArray := ⟨#[120]⟩

set_option maxRecDepth 100000 in
set_option maxHeartbeats 1000000 in
theorem awake_true (w : World) : Calls Try.prog 6 #[] w fun e w' => e = .returned (.bool true) ∧ Below w.heap.size w w' := by
  go_enter Try.func6, Try.ntmps6
  go_wp2_with fail
  refine (tc_new 2 3 w (by omega) (by omega) (by omega)).mono ?_
  rintro e w1 ⟨rfl, h1, hb1⟩
  go_wp2_with fail
  refine (tc_append w1 h1 sAA rfl (by decide)).mono ?_
  rintro e w2 ⟨rfl, F2, h2, hk2, hf2⟩
  go_wp2_with fail
  refine (tc_append w2 h2 sBB rfl (by decide)).mono ?_
  rintro e w3 ⟨rfl, F3, h3, hk3, hf3⟩
  go_wp2_with fail
  refine (tc_append w3 h3 sCC rfl (by decide)).mono ?_
  rintro e w4 ⟨rfl, F4, h4, hk4, hf4⟩
  go_wp2_with fail
  refine (tc_app_full w4 h4 sDD rfl (by decide)).mono ?_
  rintro e w5 ⟨rfl, rfl⟩
  go_wp2_with fail
  refine (tc_app_form w4.drew (h4.keep fun _ _ => rfl) sX (by decide)).mono ?_
  rintro e w5 ⟨rfl, rfl⟩
  go_wp2_with fail
  refine (tc_swap w4.drew (h4.keep fun _ _ => rfl) 0 2 rfl (by omega) (by omega)).mono ?_
  rintro e w5 ⟨rfl, F5, h5, hk5, hf5⟩
  go_wp2_with fail
  have hg : Calls Try.prog 11 #[.pointer (some ⟨w.heap.size, 0, none⟩), .int .i64 0] w5 fun e w' => e = .returned (.tuple #[.string ⟨#[99, 99]⟩, .int .i64 0]) ∧ w5.drew = w' := tc_get w5 h5 0 (by omega) (by decide)
  refine hg.mono ?_
  rintro e w6 ⟨rfl, rfl⟩
  clear hg
  go_wp2_with fail
  refine (col_len _ 2 w5.drew h5.c2).mono ?_
  rintro e w6 ⟨rfl, rfl⟩
  go_wp2_with fail
  have hc : Calls Try.prog 13 #[.pointer (some ⟨w.heap.size, 0, none⟩)] w5.drew fun e w' => e = .returned (.int .i64 1) ∧ w5.drew = w' := tc_chunks w5.drew (h5.keep fun _ _ => rfl)
  refine hc.mono ?_
  rintro e w6 ⟨rfl, rfl⟩
  clear hc
  go_wp2_with fail
  refine (col_new_no 257 1 w5.drew (by omega)).mono ?_
  rintro e w6 ⟨rfl, rfl⟩
  go_wp2
  go_ret
  refine ⟨rfl, ?_⟩
  have hs1 := hb1.size
  have l2 : ∀ k ∈ F2, w.heap.size ≤ k := fun k hk => by rcases hf2 k hk with h | h; simp at h; omega; omega
  have b2 := below_keep hb1 hk2 (fun k hk => by simp at hk; omega) (Nat.le_refl _)
  have l3 : ∀ k ∈ F3, w.heap.size ≤ k := fun k hk => by have := b2.size; rcases hf3 k hk with h | h; exact l2 k h; omega
  have b3 := below_keep b2 hk3 l2 (Nat.le_refl _)
  have l4 : ∀ k ∈ F4, w.heap.size ≤ k := fun k hk => by have := b3.size; rcases hf4 k hk with h | h; exact l3 k h; omega
  have b4 := below_keep b3 hk4 l3 (Nat.le_refl _)
  have b5 := below_keep b4.drew hk5 l4 (Nat.le_refl _)
  exact b5.drew

end Go.Proofs.Ytcdmegaebcjnlaa
