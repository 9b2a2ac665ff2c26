/- What is proved: the law's schema of two components, and what the schema's functions answer at it. -/
import Derived.Test.YthpafpgillnimaaSchParts
import Derived.Test.YthpafpgillnimaaSchClone2
namespace Go.Proofs.Ythpafpgillnimaa
open Go.RowKit Go.Proofs.Heap Go.Proofs.Sch Go.Proofs.Wide

abbrev nX : ByteArray := ⟨#[120]⟩
abbrev nY : ByteArray := ⟨#[121]⟩
abbrev nPos : ByteArray := ⟨#[112, 111, 115]⟩
abbrev nTag : ByteArray := ⟨#[116, 97, 103]⟩
def TWO : List Cmp := [⟨1, nPos, [⟨nX, 3, 1⟩, ⟨nY, 3, 1⟩]⟩, ⟨3, nTag, []⟩]
theorem two_small : Small TWO := by unfold Small TWO; decide
theorem two_check : checkC 1 TWO = 0 := by decide +kernel
theorem two_find : idxI (fun c : Cmp => decide (c.id = 3)) TWO = 1 := by decide +kernel
theorem two_named : idxI (fun c : Cmp => decide (c.name = ⟨#[118, 101, 108]⟩)) TWO = -1 := by decide +kernel
theorem two_field : idxI (fun f : Fld => decide (f.name = nY)) [⟨nX, 3, 1⟩, ⟨nY, 3, 1⟩] = 1 := by decide +kernel
theorem two_part : partC TWO ⟨2, []⟩ = 6 := by decide +kernel
theorem two_part2 : partC TWO ⟨1, [⟨false, 0, 1⟩, ⟨false, 0, 32768⟩]⟩ = 3 := by decide +kernel
theorem two_parts : partsC TWO [] [⟨3, []⟩, ⟨3, []⟩] = 1 := by decide +kernel
theorem two_a9 : nameB ⟨#[97, 57]⟩ = true := by decide +kernel
theorem two_9a : nameB ⟨#[57, 97]⟩ = false := by decide +kernel

set_option maxRecDepth 20000 in
set_option maxHeartbeats 1000000 in
theorem law_two (w : World) : Calls Try.prog 27 #[] w fun r w' => ∃ p c, r = .returned (.agg #[.int .i64 1, .slice p 2 c]) ∧ CP w' w'.heap.size p TWO ∧ Keep (fun _ => False) w w' := by
  have hk0 : Keep (fun _ => False) w (((w.alloc (.cells #[.int .i64 1, .slice (some ⟨w.heap.size + 1 + 1, 0, none⟩) 2 2] 24)).alloc (.cells #[.string ⟨#[120]⟩, .int .i64 3, .int .i64 1, .string ⟨#[121]⟩, .int .i64 3, .int .i64 1] 41)).alloc (.cells #[.int .i64 1, .string ⟨#[112, 111, 115]⟩, .slice (some ⟨w.heap.size + 1, 0, none⟩) 2 2, .int .i64 3, .string ⟨#[116, 97, 103]⟩, .slice none 0 0] 34)) := (((Keep.refl (fun _ => False) w).alloc _).alloc _).alloc _
  have hb1 : (((w.alloc (.cells #[.int .i64 1, .slice (some ⟨w.heap.size + 1 + 1, 0, none⟩) 2 2] 24)).alloc (.cells #[.string ⟨#[120]⟩, .int .i64 3, .int .i64 1, .string ⟨#[121]⟩, .int .i64 3, .int .i64 1] 41)).alloc (.cells #[.int .i64 1, .string ⟨#[112, 111, 115]⟩, .slice (some ⟨w.heap.size + 1, 0, none⟩) 2 2, .int .i64 3, .string ⟨#[116, 97, 103]⟩, .slice none 0 0] 34)).heap[w.heap.size]? = some (.cells #[.int .i64 1, .slice (some ⟨w.heap.size + 1 + 1, 0, none⟩) 2 2] 24 (0, 0)) := ((((Keep.refl (fun _ => False) _).alloc _).alloc _).get (heap_alloc_new w _) (fun h => h))
  have hb2 : (((w.alloc (.cells #[.int .i64 1, .slice (some ⟨w.heap.size + 1 + 1, 0, none⟩) 2 2] 24)).alloc (.cells #[.string ⟨#[120]⟩, .int .i64 3, .int .i64 1, .string ⟨#[121]⟩, .int .i64 3, .int .i64 1] 41)).alloc (.cells #[.int .i64 1, .string ⟨#[112, 111, 115]⟩, .slice (some ⟨w.heap.size + 1, 0, none⟩) 2 2, .int .i64 3, .string ⟨#[116, 97, 103]⟩, .slice none 0 0] 34)).heap[w.heap.size + 1]? = some (.cells #[.string ⟨#[120]⟩, .int .i64 3, .int .i64 1, .string ⟨#[121]⟩, .int .i64 3, .int .i64 1] 41 (0, 0)) := by
    have := (((Keep.refl (fun _ => False) ((w.alloc (.cells #[.int .i64 1, .slice (some ⟨w.heap.size + 1 + 1, 0, none⟩) 2 2] 24)).alloc (.cells #[.string ⟨#[120]⟩, .int .i64 3, .int .i64 1, .string ⟨#[121]⟩, .int .i64 3, .int .i64 1] 41))).alloc (.cells #[.int .i64 1, .string ⟨#[112, 111, 115]⟩, .slice (some ⟨w.heap.size + 1, 0, none⟩) 2 2, .int .i64 3, .string ⟨#[116, 97, 103]⟩, .slice none 0 0] 34)).get (heap_alloc_new (w.alloc (.cells #[.int .i64 1, .slice (some ⟨w.heap.size + 1 + 1, 0, none⟩) 2 2] 24)) (.cells #[.string ⟨#[120]⟩, .int .i64 3, .int .i64 1, .string ⟨#[121]⟩, .int .i64 3, .int .i64 1] 41)) (fun h => h))
    simpa using this
  have hb3 : (((w.alloc (.cells #[.int .i64 1, .slice (some ⟨w.heap.size + 1 + 1, 0, none⟩) 2 2] 24)).alloc (.cells #[.string ⟨#[120]⟩, .int .i64 3, .int .i64 1, .string ⟨#[121]⟩, .int .i64 3, .int .i64 1] 41)).alloc (.cells #[.int .i64 1, .string ⟨#[112, 111, 115]⟩, .slice (some ⟨w.heap.size + 1, 0, none⟩) 2 2, .int .i64 3, .string ⟨#[116, 97, 103]⟩, .slice none 0 0] 34)).heap[w.heap.size + 2]? = some (.cells #[.int .i64 1, .string ⟨#[112, 111, 115]⟩, .slice (some ⟨w.heap.size + 1, 0, none⟩) 2 2, .int .i64 3, .string ⟨#[116, 97, 103]⟩, .slice none 0 0] 34 (0, 0)) := by
    have := heap_alloc_new ((w.alloc (.cells #[.int .i64 1, .slice (some ⟨w.heap.size + 1 + 1, 0, none⟩) 2 2] 24)).alloc (.cells #[.string ⟨#[120]⟩, .int .i64 3, .int .i64 1, .string ⟨#[121]⟩, .int .i64 3, .int .i64 1] 41)) (.cells #[.int .i64 1, .string ⟨#[112, 111, 115]⟩, .slice (some ⟨w.heap.size + 1, 0, none⟩) 2 2, .int .i64 3, .string ⟨#[116, 97, 103]⟩, .slice none 0 0] 34)
    simpa using this
  have hsz : (((w.alloc (.cells #[.int .i64 1, .slice (some ⟨w.heap.size + 1 + 1, 0, none⟩) 2 2] 24)).alloc (.cells #[.string ⟨#[120]⟩, .int .i64 3, .int .i64 1, .string ⟨#[121]⟩, .int .i64 3, .int .i64 1] 41)).alloc (.cells #[.int .i64 1, .string ⟨#[112, 111, 115]⟩, .slice (some ⟨w.heap.size + 1, 0, none⟩) 2 2, .int .i64 3, .string ⟨#[116, 97, 103]⟩, .slice none 0 0] 34)).heap.size = w.heap.size + 3 := by simp
  have HK0 := hid hk0; have HB1 := hid hb1; have HB2 := hid hb2; have HB3 := hid hb3; have HS := hid hsz
  clear hk0 hb1 hb2 hb3 hsz
  go_enter Try.func27, Try.ntmps27
  go_wp2
  (try simp only [Exit.inBlock, Exit.then])
  generalize (((w.alloc (.cells #[.int .i64 1, .slice (some ⟨w.heap.size + 1 + 1, 0, none⟩) 2 2] 24)).alloc (.cells #[.string ⟨#[120]⟩, .int .i64 3, .int .i64 1, .string ⟨#[121]⟩, .int .i64 3, .int .i64 1] 41)).alloc (.cells #[.int .i64 1, .string ⟨#[112, 111, 115]⟩, .slice (some ⟨w.heap.size + 1, 0, none⟩) 2 2, .int .i64 3, .string ⟨#[116, 97, 103]⟩, .slice none 0 0] 34)) = w0 at *
  refine bodyPost_ret (results_c rfl _ rfl (run_loadVar_row _ w.heap.size _ 24 _ _ _ HB1.out Try.underlying24 rfl (by kernel_rfl))) rfl ?_
  refine ⟨some ⟨w.heap.size + 2, 0, none⟩, 2, rfl, .inr ⟨w.heap.size + 2, 0, rfl, by rw [HS.out]; omega, fun i x hx => ?_⟩, HK0.out⟩
  match i, hx with
  | 0, hx =>
    injection hx with hx
    subst hx
    refine ⟨cell_of HB3.out (by rfl), cell_of HB3.out (by rfl), some ⟨w.heap.size + 1, 0, none⟩, 2, cell_of HB3.out (by rfl), by decide, .inr ⟨w.heap.size + 1, 0, rfl, by rw [HS.out]; omega, fun j y hy => ?_⟩⟩
    match j, hy with
    | 0, hy =>
      injection hy with hy
      subst hy
      exact ⟨cell_of HB2.out (by rfl), cell_of HB2.out (by rfl), cell_of HB2.out (by rfl)⟩
    | 1, hy =>
      injection hy with hy
      subst hy
      exact ⟨cell_of HB2.out (by rfl), cell_of HB2.out (by rfl), cell_of HB2.out (by rfl)⟩
    | _ + 2, hy => simp at hy
  | 1, hx =>
    injection hx with hx
    subst hx
    exact ⟨cell_of HB3.out (by rfl), cell_of HB3.out (by rfl), none, 0, cell_of HB3.out (by rfl), by decide, .inl rfl⟩
  | _ + 2, hx => simp [TWO] at hx

end Go.Proofs.Ythpafpgillnimaa
