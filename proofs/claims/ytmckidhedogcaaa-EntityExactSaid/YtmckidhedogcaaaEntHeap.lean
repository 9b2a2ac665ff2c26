/- What is proved: the queue's methods, called through the heap's interface, do to the owned row of ids in memory what their names say. -/
import Derived.Test.YtmckidhedogcaaaEntBits
import Derived.Test.YtmckidhedogcaaaHeap
import Derived.Test.YtmckidhedogcaaaRegion3
namespace Go.Proofs.Ytmckidhedogcaaa
open Go.RowKit Go.Proofs.Heap

theorem m_pop (w : World) (a : Addr) : (method 201 70 (.pointer (some a)) "Pop").run Try.prog w = .ok (58, .pointer (some a)) w := by kernel_rfl
theorem m_push (w : World) (a : Addr) : (method 201 70 (.pointer (some a)) "Push").run Try.prog w = .ok (59, .pointer (some a)) w := by kernel_rfl
theorem m_len0 (w : World) (a : Addr) : (method 201 70 (.pointer (some a)) "Len").run Try.prog w = (loadVar 66 a >>= fun v => pure (55, v)).run Try.prog w := by kernel_rfl
theorem m_less0 (w : World) (a : Addr) : (method 201 70 (.pointer (some a)) "Less").run Try.prog w = (loadVar 66 a >>= fun v => pure (56, v)).run Try.prog w := by kernel_rfl
theorem m_swap0 (w : World) (a : Addr) : (method 201 70 (.pointer (some a)) "Swap").run Try.prog w = (loadVar 66 a >>= fun v => pure (57, v)).run Try.prog w := by kernel_rfl
theorem load_q (w : World) (a : Addr) (v : Value) (f : FuncId) (h : w.cell? a = some v) : (loadVar 66 a >>= fun v => pure (f, v)).run Try.prog w = .ok (f, v) w := by
  simp [loadVar, h]
theorem m_len (w : World) (a : Addr) (v : Value) (h : w.cell? a = some v) : (method 201 70 (.pointer (some a)) "Len").run Try.prog w = .ok (55, v) w := (m_len0 w a).trans (load_q w a v _ h)
theorem m_less (w : World) (a : Addr) (v : Value) (h : w.cell? a = some v) : (method 201 70 (.pointer (some a)) "Less").run Try.prog w = .ok (56, v) w := (m_less0 w a).trans (load_q w a v _ h)
theorem m_swap (w : World) (a : Addr) (v : Value) (h : w.cell? a = some v) : (method 201 70 (.pointer (some a)) "Swap").run Try.prog w = .ok (57, v) w := (m_swap0 w a).trans (load_q w a v _ h)

/-- An int in memory. -/
abbrev iV (n : Nat) : Value := .int .i64 (n : Int)

theorem q_len (w : World) (p : Option Addr) (n c : Nat) : Calls Try.prog 55 #[.slice p n c] w fun r w' => r = .returned (.int .i64 (n : Int)) ∧ w = w' := by
  go_enter Try.func55, Try.ntmps55
  go_wp2
  go_ret
  exact ⟨rfl, rfl⟩

theorem q_less (w : World) (g n c i j x y : Nat) (hi : i < n) (hj : j < n) (hx : w.cell? ⟨g, i, none⟩ = some (iV x)) (hy : w.cell? ⟨g, j, none⟩ = some (iV y)) :
    Calls Try.prog 56 #[.slice (some ⟨g, 0, none⟩) n c, .int .i64 (i : Int), .int .i64 (j : Int)] w fun r w' => r = .returned (.bool (decide (x < y))) ∧ w.drew = w' := by
  have h1 : (0 : Int) ≤ (i : Int) ∧ (i : Int) < (n : Int) := ⟨by omega, by omega⟩
  have h2 : (0 : Int) ≤ (j : Int) ∧ (j : Int) < (n : Int) := ⟨by omega, by omega⟩
  go_enter Try.func56, Try.ntmps56
  go_wp2
  refine Plan.wp_region_reads (by kernel_rfl) (by kernel_rfl) ?_
  repeat (go_big_quiet_step (fail))
  refine wpQuiet_nil ?_
  go_wp2
  go_ret
  exact ⟨rfl, rfl⟩

theorem q_pop (w : World) (b g n c x : Nat) (hn : n ≤ 65536) (h : w.cell? ⟨b, 3, none⟩ = some (.slice (some ⟨g, 0, none⟩) (n + 1) c)) (hf : w.frozen? ⟨b, 3, none⟩ = false) (hc : n + 1 ≤ c) (hx : w.cell? ⟨g, n, none⟩ = some (iV x)) :
    Calls Try.prog 58 #[.pointer (some ⟨b, 3, none⟩)] w fun r w' => r = .returned (.iface 3 (iV x)) ∧ w.setCell ⟨b, 3, none⟩ (.slice (some ⟨g, 0, none⟩) n c) = w' := by
  have h1 : (0 : Int) ≤ (n : Int) ∧ (n : Int) < (n : Int) + 1 := ⟨by omega, by omega⟩
  have h2 : n ≤ c := by omega
  go_enter Try.func58, Try.ntmps58
  go_wp2
  go_ret
  exact ⟨rfl, rfl⟩

theorem q_swap (w : World) (g n c i j x y : Nat) (hi : i < n) (hj : j < n) (hx : w.cell? ⟨g, i, none⟩ = some (iV x)) (hy : w.cell? ⟨g, j, none⟩ = some (iV y)) (hz : ∃ z, (w.setCell ⟨g, i, none⟩ (iV y)).cell? ⟨g, j, none⟩ = some z) (hf : ∀ k, w.frozen? ⟨g, k, none⟩ = false) :
    Calls Try.prog 57 #[.slice (some ⟨g, 0, none⟩) n c, .int .i64 (i : Int), .int .i64 (j : Int)] w fun r w' => r = .returned (.tuple #[]) ∧ (w.drew.setCell ⟨g, i, none⟩ (iV y)).setCell ⟨g, j, none⟩ (iV x) = w' := by
  have h1 : (0 : Int) ≤ (i : Int) ∧ (i : Int) < (n : Int) := ⟨by omega, by omega⟩
  have h2 : (0 : Int) ≤ (j : Int) ∧ (j : Int) < (n : Int) := ⟨by omega, by omega⟩
  obtain ⟨z, hz⟩ := hz
  have hfi := hf i
  have hfj := hf j
  clear hf
  go_enter Try.func57, Try.ntmps57
  go_wp2
  refine Plan.wp_region_plan2 [(false, 0, []), (false, 1, []), (false, 2, []), (false, 3, []), (false, 4, []), (false, 5, []), (false, 6, []), (false, 7, []), (false, 8, []), (false, 9, []), (false, 10, []), (false, 11, []), (false, 12, []), (true, 13, [3, 2]), (false, 14, []), (true, 15, [])] (by kernel_rfl) (by kernel_rfl) ?_
  repeat (refine Plan.plan_st rfl ?_; go_big_quiet_step (fail); refine wpQuiet_nil ?_)
  refine Plan.plan_ac rfl ?_
  go_wp2
  refine Plan.planQ_mk ?_ ?_
  · repeat (refine Plan.chk_st rfl ?_ ?_; focus (go_big_quiet_step (fail); exact wpQuiet_nil rfl))
    exact Plan.chk_end
  repeat (refine Plan.plan_st rfl ?_; go_big_quiet_step (fail); refine wpQuiet_nil ?_)
  refine Plan.plan_ac rfl ?_
  go_wp2
  refine Plan.planQ_mk ?_ ?_
  · exact Plan.chk_end
  refine Plan.plan_end ?_
  go_wp2
  go_end0
  exact ⟨rfl, rfl⟩

end Go.Proofs.Ytmckidhedogcaaa
