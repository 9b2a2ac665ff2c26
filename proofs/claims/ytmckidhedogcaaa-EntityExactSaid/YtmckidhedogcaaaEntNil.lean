/- What is proved: what the methods answer where there is no Index. -/
import Derived.Test.YtmckidhedogcaaaEntAct
namespace Go.Proofs.Ytmckidhedogcaaa
open Go.RowKit Go.Proofs.Heap Go.Proofs.HeapLaw

theorem n_kill (w : World) (e : Int) : Calls Try.prog 14 #[.pointer none, .int .u64 e] w fun r w' => r = .returned (.int .i64 2) ∧ w = w' := by
  go_enter Try.func14, Try.ntmps14
  go_wp2
  go_ret
  exact ⟨rfl, rfl⟩
theorem n_free (w : World) : Calls Try.prog 18 #[.pointer none] w fun r w' => r = .returned (.int .i64 0) ∧ w = w' := by
  go_enter Try.func18, Try.ntmps18
  go_wp2
  go_ret
  exact ⟨rfl, rfl⟩
theorem n_next (w : World) : Calls Try.prog 19 #[.pointer none] w fun r w' => r = .returned (.int .u64 0) ∧ w = w' := by
  go_enter Try.func19, Try.ntmps19
  go_wp2_with fail
  refine (n_free w).mono ?_
  rintro r w' ⟨rfl, rfl⟩
  go_wp2
  go_ret
  exact ⟨rfl, rfl⟩
theorem n_live (w : World) : Calls Try.prog 13 #[.pointer none] w fun r w' => r = .returned (.slice none 0 0) ∧ w = w' := by
  go_enter Try.func13, Try.ntmps13
  go_wp2
  go_ret
  exact ⟨rfl, rfl⟩
theorem n_count (w : World) : Calls Try.prog 17 #[.pointer none] w fun r w' => r = .returned (.int .i64 0) ∧ w = w' := by
  go_enter Try.func17, Try.ntmps17
  go_wp2_with fail
  refine (n_live w).mono ?_
  rintro r w' ⟨rfl, rfl⟩
  go_wp2
  go_ret
  exact ⟨rfl, rfl⟩
set_option maxHeartbeats 1000000 in
theorem n_alive (w : World) (e : Int) : Calls Try.prog 16 #[.pointer none, .int .u64 e] w fun r w' => r = .returned (.bool false) ∧ Keep (fun _ => False) w w' := by
  go_enter Try.func16, Try.ntmps16
  go_wp2_with fail
  refine Plan.wp_region_pl [(false, 0, []), (false, 1, []), (false, 2, []), (false, 3, []), (false, 5, []), (false, 6, []), (false, 7, []), (false, 8, []), (false, 9, []), (true, 4, [9, 8, 7, 6, 5]), (false, 10, []), (false, 11, [])] (by kernel_rfl) (by kernel_rfl) ?_
  repeat (refine Plan.pl_st rfl ?_; go_big_quiet_step (fail); refine wpQuiet_nil ?_)
  refine Plan.pl_ac rfl ?_
  go_wp2
  refine Plan.plQ_mk ?_ ?_
  · repeat (refine Plan.chk_st rfl ?_ ?_; focus (go_big_quiet_step (fail); exact wpQuiet_nil rfl))
    exact Plan.chk_end
  repeat (refine Plan.pl_st rfl ?_; go_big_quiet_step (fail); refine wpQuiet_nil ?_)
  refine Plan.pl_end ?_
  go_wp2
  go_ret
  exact ⟨rfl, (Keep.refl _ w).drew⟩

end Go.Proofs.Ytmckidhedogcaaa
