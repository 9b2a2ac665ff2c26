/- What is proved: the law EntityExact where the count of ids or of generations is out of range; two equal rows of handles are found equal. -/
import Derived.Test.YtmckidhedogcaaaEntNil
import Derived.Test.YtmckidhedogcaaaEntClone2
import Derived.Test.YtmckidhedogcaaaEntAwake
namespace Go.Proofs.Ytmckidhedogcaaa
open Go.RowKit Go.Proofs.Heap Go.Proofs.HeapLaw

set_option maxRecDepth 100000 in
set_option maxHeartbeats 4000000 in
theorem exact_out (ids gens : Int) (p : Option Addr) (len cap : Nat) (w : World) (h : ids < 1 ∨ 256 < ids ∨ gens < 1 ∨ 65535 < gens) :
    Calls Try.prog 6 #[.int .i64 ids, .int .i64 gens, .slice p len cap] w fun r w' => r = .returned (.bool true) ∧ Below w.heap.size w w' := by
  go_enter Try.func6, Try.ntmps6
  go_wp2_with fail
  refine (awake_true w).mono ?_
  rintro r w1 ⟨rfl, hk1⟩
  have HK1 := hid hk1
  clear hk1
  go_wp2_with fail
  refine (x_new_no ids gens w1 h).mono ?_
  rintro r w2 ⟨rfl, rfl⟩
  go_wp2_with fail
  all_goals first
    | omega
    | (refine (x_spawn_nil w1).mono ?_
       rintro r w2 ⟨rfl, rfl⟩
       go_wp2_with fail
       refine (n_kill w1 1).mono ?_
       rintro r w2 ⟨rfl, rfl⟩
       go_wp2_with fail
       refine (n_alive w1 1).mono ?_
       rintro r w2 ⟨rfl, hk2⟩
       have HK2 := hid (HK1.out.trans hk2)
       clear hk2
       go_wp2_with fail
       refine (n_live w2).mono ?_
       rintro r w3 ⟨rfl, rfl⟩
       go_wp2_with fail
       refine (n_count w2).mono ?_
       rintro r w3 ⟨rfl, rfl⟩
       go_wp2_with fail
       refine (n_free w2).mono ?_
       rintro r w3 ⟨rfl, rfl⟩
       go_wp2_with fail
       refine (n_next w2).mono ?_
       rintro r w3 ⟨rfl, rfl⟩
       go_wp2_with fail
       refine (x_clone_nil w2).mono ?_
       rintro r w3 ⟨rfl, rfl⟩
       go_wp2_with fail
       refine (x_same_nil w2).mono ?_
       rintro r w3 ⟨rfl, rfl⟩
       go_wp2
       go_ret
       exact ⟨rfl, HK2.out.below⟩)

set_option maxHeartbeats 1000000 in
theorem ents_true (w : World) (pa pb : Option Addr) (ca cb m : Nat) (A : Nat → Nat) (hm : m ≤ 65536)
    (hA : m = 0 ∨ ∃ ga, pa = some ⟨ga, 0, none⟩ ∧ ga < w.heap.size ∧ ∀ i, i < m → w.cell? ⟨ga, i, none⟩ = some (eV (A i)))
    (hB : m = 0 ∨ ∃ gb, pb = some ⟨gb, 0, none⟩ ∧ gb < w.heap.size ∧ ∀ i, i < m → w.cell? ⟨gb, i, none⟩ = some (eV (A i))) (h64 : ∀ i, i < m → A i < 18446744073709551616) :
    Calls Try.prog 26 #[.slice pa m ca, .slice pb m cb] w fun e w' => e = .returned (.bool true) ∧ Keep (fun _ => False) w w' := by
  have HA := hid hA; have HB := hid hB; have H6 := hid h64
  clear hA hB h64
  go_enter Try.func26, Try.ntmps26
  go_wp2_with fail
  go_loopw [5] (fun i wr => ∃ k : Nat, k ≤ m ∧ i = .int .i64 k ∧ Keep (fun _ => False) w wr) (fun i _ => m + 1 - (intOf i).toNat)
  case atStart => exact ⟨0, by omega, by go_num, Keep.refl _ _⟩
  case round =>
    obtain ⟨k, hk, rfl, hkeep⟩ := hrel
    by_cases hlt : k < m
    · rcases HA.out with h0 | ⟨ga, rfl, lA, cA⟩
      · omega
      rcases HB.out with h0 | ⟨gb, rfl, lB, cB⟩
      · omega
      have hc1 : wr.cell? ⟨ga, k, none⟩ = some (eV (A k)) := by rw [World.cell?_of_block (a := ⟨ga, k, none⟩) (hkeep.block ga lA id)]; exact cA k hlt
      have hc2 : wr.cell? ⟨gb, k, none⟩ = some (eV (A k)) := by rw [World.cell?_of_block (a := ⟨gb, k, none⟩) (hkeep.block gb lB id)]; exact cB k hlt
      have hin : (0 : Int) ≤ (k : Int) ∧ (k : Int) < (m : Int) := ⟨by omega, by omega⟩
      have h6 := H6.out k hlt
      have hwrap : IntKind.u64.wrap (A k : Int) = (A k : Int) := by have := IntKind.wrap_u64 (A k : Int); omega
      have HK := hid hkeep
      clear hkeep cA cB
      go_wp2_with fail
      refine Plan.wp_region_reads (by kernel_rfl) (by kernel_rfl) ?_
      repeat (go_big_quiet_step (fail))
      refine wpQuiet_nil ?_
      go_wp2
      go_roundw
      case rel => exact ⟨k + 1, by omega, by go_num, HK.out.drew⟩
      case measure => simp [intOf]; omega
    · obtain rfl : k = m := by omega
      go_wp2
      go_ret
      exact ⟨rfl, hkeep⟩

end Go.Proofs.Ytmckidhedogcaaa
