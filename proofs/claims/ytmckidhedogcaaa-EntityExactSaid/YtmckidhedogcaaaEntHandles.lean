/- What is proved: the law EntityHandles returns true, whatever the id, the generation and the handle. -/
import Derived.Test.YtmckidhedogcaaaEntAwake
namespace Go.Proofs.Ytmckidhedogcaaa
open Go.RowKit Go.Proofs.Heap Go.Proofs.HeapLaw

theorem ref_handle (id gen : Int) (w : World) (h0 : 1 ≤ id) (h1 : id < 4294967296) (g0 : 1 ≤ gen) (g1 : gen < 4294967296) :
    Calls Try.prog 8 #[.int .i64 id, .int .i64 gen] w fun r w' => r = .returned (.int .u64 (handle id gen)) ∧ w = w' := by
  unfold handle
  go_enter Try.func8, Try.ntmps8
  go_wp2
  go_ret
  exact ⟨rfl, rfl⟩

set_option maxRecDepth 100000 in
set_option maxHeartbeats 2000000 in
theorem handles_true (id gen e : Int) (he0 : 0 ≤ e) (he1 : e < 18446744073709551616) (w : World) :
    Calls Try.prog 3 #[.int .i64 id, .int .i64 gen, .int .u64 e] w fun r w' => r = .returned (.bool true) ∧ Below w.heap.size w w' := by
  go_enter Try.func3, Try.ntmps3
  go_wp2_with fail
  refine (awake_true w).mono ?_
  rintro r w1 ⟨rfl, hk⟩
  have HK := hid hk.below
  clear hk
  by_cases hall : (1 ≤ id ∧ id < 4294967296) ∧ (1 ≤ gen ∧ gen < 4294967296)
  · obtain ⟨⟨a1, a2⟩, a3, a4⟩ := hall
    have hh := fun w => ref_handle id gen w a1 a2 a3 a4
    have ho := fun w => ent_of id gen w a1 a2 a3 a4
    have HH := hid hh; have HO := hid ho
    have hhd : 0 ≤ handle id gen ∧ handle id gen < 18446744073709551616 := by unfold handle; omega
    generalize handle id gen = hd at *
    clear hh ho
    go_wp2_with fail
    refine (HH.out _).mono ?_
    rintro r w' ⟨rfl, rfl⟩
    go_wp2_with fail
    refine (HO.out _).mono ?_
    rintro r w' ⟨rfl, rfl⟩
    go_wp2_with fail
    refine (ent_id e _ he0 he1).mono ?_
    rintro r w' ⟨rfl, rfl⟩
    go_wp2_with fail
    refine (ent_gen e _ he0 he1).mono ?_
    rintro r w' ⟨rfl, rfl⟩
    go_wp2
    go_ret
    exact ⟨rfl, HK.out⟩
  · have ho := fun w => ent_of_no id gen w (by omega)
    have HO := hid ho
    clear ho
    go_wp2_with fail
    all_goals first
      | omega
      | (refine (HO.out _).mono ?_
         rintro r w' ⟨rfl, rfl⟩
         go_wp2_with fail
         refine (ent_id e _ he0 he1).mono ?_
         rintro r w' ⟨rfl, rfl⟩
         go_wp2_with fail
         refine (ent_gen e _ he0 he1).mono ?_
         rintro r w' ⟨rfl, rfl⟩
         go_wp2
         go_ret
         exact ⟨rfl, HK.out⟩)

end Go.Proofs.Ytmckidhedogcaaa
