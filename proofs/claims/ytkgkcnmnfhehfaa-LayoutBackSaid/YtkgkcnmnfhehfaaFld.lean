/- What is proved: what isKind, shapes, of and Size of the field's layer answer. -/
import Derived.Test.YtkgkcnmnfhehfaaSchNames
import Derived.Test.YtkgkcnmnfhehfaaRes
namespace Go.Proofs.Ytkgkcnmnfhehfaa
open Go.RowKit Go.Proofs.Heap

def kindB (k : Int) : Bool := decide (1 ≤ k ∧ k ≤ 10)
/-- How many bytes an element of a kind has; nought: there is no such kind. -/
def sizeK (k : Int) : Int := if k = 1 ∨ k = 2 ∨ k = 6 then 1 else if k = 3 ∨ k = 7 then 2 else if k = 4 ∨ k = 8 then 4 else if k = 5 ∨ k = 9 ∨ k = 10 then 8 else 0
def signK (k : Int) : Bool := decide (2 ≤ k ∧ k ≤ 5)

theorem is_kind (k : Int) (w : World) : Calls Try.prog 40 #[.int .i64 k] w fun r w' => r = .returned (.bool (kindB k)) ∧ w = w' := by
  go_enter Try.func40, Try.ntmps40
  unfold kindB
  by_cases h1 : (1 : Int) ≤ k
  · have e1 : decide ((1 : Int) ≤ k) = true := decide_eq_true h1
    go_wp2
    go_ret
    exact ⟨by simp [h1], rfl⟩
  · have e1 : decide ((1 : Int) ≤ k) = false := decide_eq_false h1
    go_wp2
    go_ret
    exact ⟨by simp, rfl⟩

theorem shapes_row (w : World) : Calls Try.prog 62 #[] w fun r w' => r = .returned (.slice (some ⟨w.heap.size, 0, none⟩) 11 11) ∧ Keep (fun _ => False) w w' ∧ ∀ k : Nat, 1 ≤ k → k ≤ 10 →
    ∃ s, w'.cell? ⟨w.heap.size, k * 3, none⟩ = some (.string s) ∧ w'.cell? ⟨w.heap.size, k * 3 + 1, none⟩ = some (.int .i64 (sizeK k)) ∧ w'.cell? ⟨w.heap.size, k * 3 + 2, none⟩ = some (.bool (signK k)) := by
  go_enter Try.func62, Try.ntmps62
  go_wp2
  go_ret
  refine ⟨rfl, (Keep.refl _ w).alloc _, fun k h1 h2 => ?_⟩
  have hk : k = 1 ∨ k = 2 ∨ k = 3 ∨ k = 4 ∨ k = 5 ∨ k = 6 ∨ k = 7 ∨ k = 8 ∨ k = 9 ∨ k = 10 := by omega
  rcases hk with rfl | rfl | rfl | rfl | rfl | rfl | rfl | rfl | rfl | rfl
  all_goals exact ⟨_, cell_of (heap_alloc_new w _) (by rfl), cell_of (heap_alloc_new w _) (by rfl), cell_of (heap_alloc_new w _) (by rfl)⟩

theorem kind_of (k : Int) (w : World) : Calls Try.prog 39 #[.int .i64 k] w fun r w' => ∃ s, r = .returned (.agg #[.string s, .int .i64 (sizeK k), .bool (signK k)]) ∧ Keep (fun _ => False) w w' := by
  go_enter Try.func39, Try.ntmps39
  go_wp2_with fail
  have hb := heap_alloc_new w (.cells #[.string ⟨#[]⟩, .int .i64 0, .bool false] 87)
  have hk0 := (Keep.refl (fun _ => False) w).alloc (.cells #[.string ⟨#[]⟩, .int .i64 0, .bool false] 87)
  generalize w.alloc (.cells #[.string ⟨#[]⟩, .int .i64 0, .bool false] 87) = w0 at *
  have HB := hid hb; have HK0 := hid hk0
  generalize hgb : w.heap.size = b at *
  clear hb hk0
  refine (is_kind k _).mono ?_
  rintro r w' ⟨rfl, rfl⟩
  by_cases h : 1 ≤ k ∧ k ≤ 10
  · have e : kindB k = true := decide_eq_true h
    obtain ⟨n, rfl⟩ := Int.eq_ofNat_of_zero_le (a := k) (by omega)
    rw [e]
    clear e
    go_wp2_with fail
    refine (shapes_row _).mono ?_
    rintro r w1 ⟨rfl, hk1, hc⟩
    obtain ⟨s, c0, c1, c2⟩ := hc n (by omega) (by omega)
    have hin : (0 : Int) ≤ (n : Int) ∧ (n : Int) < 11 := ⟨by omega, by omega⟩
    have hb1 := hk1.get HB.out id
    have HK1 := hid (HK0.out.trans hk1); have HB1 := hid hb1
    clear hc hk1 h hb1 HB HK0
    generalize hz : sizeK (n : Int) = z at *
    generalize hg : signK (n : Int) = g at *
    have HZ := hid hz; have HG := hid hg
    clear hz hg
    generalize w0.heap.size = q at *
    have d0 := cell_of HB1.out (i := 0) (by rfl)
    have d1 := cell_of HB1.out (i := 1) (by rfl)
    have d2 := cell_of HB1.out (i := 2) (by rfl)
    have f0 := free_of HB1.out 0
    have f1 := free_of HB1.out 1
    have f2 := free_of HB1.out 2
    go_wp2
    (try simp only [Exit.inBlock, Exit.then])
    refine bodyPost_ret (results_c rfl _ rfl (run_loadVar_row _ b _ 87 _ _ _ (cells3 (.string s) (.int .i64 z) (.bool g) HB1.out) Try.underlying87 rfl (by kernel_rfl))) rfl ?_
    exact ⟨s, by rw [HZ.out, HG.out], ((HK1.out.setCell_new (by simp [hgb]) _).setCell_new (by simp [hgb]) _).setCell_new (by simp [hgb]) _⟩
  · have e : kindB k = false := decide_eq_false h
    have e1 : sizeK k = 0 := by unfold sizeK; rw [if_neg (by omega), if_neg (by omega), if_neg (by omega), if_neg (by omega)]
    have e2 : signK k = false := decide_eq_false (by omega)
    rw [e]
    have E1 := hid e1; have E2 := hid e2
    clear e e1 e2 h
    have d0 := cell_of HB.out (i := 0) (by rfl)
    have d1 := cell_of HB.out (i := 1) (by rfl)
    have d2 := cell_of HB.out (i := 2) (by rfl)
    have f0 := free_of HB.out 0
    have f1 := free_of HB.out 1
    have f2 := free_of HB.out 2
    go_wp2
    (try simp only [Exit.inBlock, Exit.then])
    refine bodyPost_ret (results_c rfl _ rfl (run_loadVar_row _ b _ 87 _ _ _ (cells3 (.string ⟨#[]⟩) (.int .i64 0) (.bool false) HB.out) Try.underlying87 rfl (by kernel_rfl))) rfl ?_
    exact ⟨⟨#[]⟩, by rw [E1.out, E2.out], ((HK0.out.setCell_new (by simp [hgb]) _).setCell_new (by simp [hgb]) _).setCell_new (by simp [hgb]) _⟩
theorem field_size (s : ByteArray) (z : Int) (g : Bool) (w : World) : (Instr.field 87 (.agg #[.string s, .int .i64 z, .bool g]) 1).run Try.prog w = .ok (.int .i64 z) w := by kernel_rfl

set_option maxRecDepth 10000 in
theorem size_of (k : Int) (w : World) : Calls Try.prog 20 #[.int .i64 k] w fun r w' => r = .returned (.int .i64 (sizeK k)) ∧ Keep (fun _ => False) w w' := by
  go_enter Try.func20, Try.ntmps20
  go_wp2_with fail
  refine (kind_of k _).mono ?_
  rintro r w1 ⟨s, rfl, hk⟩
  have hfd := field_size s (sizeK k) (signK k) w1
  have HK := hid hk
  clear hk
  go_wp2
  go_ret
  exact ⟨rfl, HK.out⟩
end Go.Proofs.Ytkgkcnmnfhehfaa
