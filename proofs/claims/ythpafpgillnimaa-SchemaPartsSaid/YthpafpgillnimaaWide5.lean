/- What is proved: what Greatest of the field's layer answers. -/
import Derived.Test.YthpafpgillnimaaWide4
namespace Go.Proofs.Ythpafpgillnimaa
open Go.RowKit Go.Proofs.Heap Go.Proofs.Wide

set_option maxRecDepth 20000 in
set_option maxHeartbeats 1000000 in
theorem f_great1 (w : World) : Calls Try.prog 62 #[.int .i64 1] w fun r w' => r = .returned (WV ⟨false, 0, 1⟩) ∧ Keep (fun _ => False) w w' := by
  have hb := heap_alloc_new w (.cells Z3 63)
  have hk := (Keep.refl (fun _ => False) w).alloc (.cells Z3 63)
  have HB0 := hid hb; have HK0 := hid hk
  clear hb hk
  go_enter Try.func62, Try.ntmps62
  go_upto_region 1 with fail
  generalize w.alloc (.cells Z3 63) = w0 at *
  generalize hsb : w.heap.size = sb at *
  go_wp2_with fail
  refine (kind_of 1 _).mono ?_
  rintro r w1 ⟨s, rfl, hk1⟩
  rw [show sizeK 1 = 1 from rfl, show signK 1 = false from rfl]
  have hk2 := hk1.alloc (.cells #[.string s, .int .i64 1, .bool false] 104)
  have HB1 := hid (hk2.get HB0.out (fun h => h)); have HK1 := hid (HK0.out.trans hk2)
  clear hk1 hk2
  go_wp2_with fail
  refine (w_of 1 (by decide) _).mono ?_
  rintro r w2 ⟨rfl, hk2⟩
  have HK := hid (HK1.out.trans hk2)
  have HB := hid (hk2.get HB1.out (fun h => h))
  clear hk2
  have c0 := cell_of HB.out (i := 0) (by rfl)
  have c1 := cell_of HB.out (i := 1) (by rfl)
  have c2 := cell_of HB.out (i := 2) (by rfl)
  have f0 := free_of HB.out 0
  have f1 := free_of HB.out 1
  have f2 := free_of HB.out 2
  go_wp2
  (try simp only [Exit.inBlock, Exit.then])
  refine bodyPost_ret (results_c rfl _ rfl (run_loadVar_row _ sb _ 63 _ _ _ (cells3 (.bool false) (.int .u64 ((0 : Nat) : Int)) (.int .u64 ((1 : Nat) : Int)) HB.out) Try.underlying63 rfl (by kernel_rfl))) rfl ?_
  exact ⟨rfl, ((HK.out.setCell_new (p := ⟨sb, 0, none⟩) (by show _ ≤ sb; omega) _).setCell_new (p := ⟨sb, 1, none⟩) (by show _ ≤ sb; omega) _).setCell_new (p := ⟨sb, 2, none⟩) (by show _ ≤ sb; omega) _⟩

set_option maxRecDepth 20000 in
set_option maxHeartbeats 1000000 in
theorem f_great2 (w : World) : Calls Try.prog 62 #[.int .i64 2] w fun r w' => r = .returned (WV ⟨false, 0, 127⟩) ∧ Keep (fun _ => False) w w' := by
  have hb := heap_alloc_new w (.cells Z3 63)
  have hk := (Keep.refl (fun _ => False) w).alloc (.cells Z3 63)
  have HB0 := hid hb; have HK0 := hid hk
  clear hb hk
  go_enter Try.func62, Try.ntmps62
  go_upto_region 1 with fail
  generalize w.alloc (.cells Z3 63) = w0 at *
  generalize hsb : w.heap.size = sb at *
  go_wp2_with fail
  refine (kind_of 2 _).mono ?_
  rintro r w1 ⟨s, rfl, hk1⟩
  rw [show sizeK 2 = 1 from rfl, show signK 2 = true from rfl]
  have hk2 := hk1.alloc (.cells #[.string s, .int .i64 1, .bool true] 104)
  have HB1 := hid (hk2.get HB0.out (fun h => h)); have HK1 := hid (HK0.out.trans hk2)
  clear hk1 hk2
  go_wp2_with fail
  refine (f_power 8 (by decide) _).mono ?_
  rintro r w' ⟨rfl, rfl⟩
  go_wp2_with fail
  refine (w_ofword 127 _).mono ?_
  rintro r w2 ⟨rfl, hk2⟩
  have HK := hid (HK1.out.trans hk2)
  have HB := hid (hk2.get HB1.out (fun h => h))
  clear hk2
  have c0 := cell_of HB.out (i := 0) (by rfl)
  have c1 := cell_of HB.out (i := 1) (by rfl)
  have c2 := cell_of HB.out (i := 2) (by rfl)
  have f0 := free_of HB.out 0
  have f1 := free_of HB.out 1
  have f2 := free_of HB.out 2
  go_wp2
  (try simp only [Exit.inBlock, Exit.then])
  refine bodyPost_ret (results_c rfl _ rfl (run_loadVar_row _ sb _ 63 _ _ _ (cells3 (.bool false) (.int .u64 ((0 : Nat) : Int)) (.int .u64 ((127 : Nat) : Int)) HB.out) Try.underlying63 rfl (by kernel_rfl))) rfl ?_
  exact ⟨rfl, ((HK.out.setCell_new (p := ⟨sb, 0, none⟩) (by show _ ≤ sb; omega) _).setCell_new (p := ⟨sb, 1, none⟩) (by show _ ≤ sb; omega) _).setCell_new (p := ⟨sb, 2, none⟩) (by show _ ≤ sb; omega) _⟩

set_option maxRecDepth 20000 in
set_option maxHeartbeats 1000000 in
theorem f_great3 (w : World) : Calls Try.prog 62 #[.int .i64 3] w fun r w' => r = .returned (WV ⟨false, 0, 32767⟩) ∧ Keep (fun _ => False) w w' := by
  have hb := heap_alloc_new w (.cells Z3 63)
  have hk := (Keep.refl (fun _ => False) w).alloc (.cells Z3 63)
  have HB0 := hid hb; have HK0 := hid hk
  clear hb hk
  go_enter Try.func62, Try.ntmps62
  go_upto_region 1 with fail
  generalize w.alloc (.cells Z3 63) = w0 at *
  generalize hsb : w.heap.size = sb at *
  go_wp2_with fail
  refine (kind_of 3 _).mono ?_
  rintro r w1 ⟨s, rfl, hk1⟩
  rw [show sizeK 3 = 2 from rfl, show signK 3 = true from rfl]
  have hk2 := hk1.alloc (.cells #[.string s, .int .i64 2, .bool true] 104)
  have HB1 := hid (hk2.get HB0.out (fun h => h)); have HK1 := hid (HK0.out.trans hk2)
  clear hk1 hk2
  go_wp2_with fail
  refine (f_power 16 (by decide) _).mono ?_
  rintro r w' ⟨rfl, rfl⟩
  go_wp2_with fail
  refine (w_ofword 32767 _).mono ?_
  rintro r w2 ⟨rfl, hk2⟩
  have HK := hid (HK1.out.trans hk2)
  have HB := hid (hk2.get HB1.out (fun h => h))
  clear hk2
  have c0 := cell_of HB.out (i := 0) (by rfl)
  have c1 := cell_of HB.out (i := 1) (by rfl)
  have c2 := cell_of HB.out (i := 2) (by rfl)
  have f0 := free_of HB.out 0
  have f1 := free_of HB.out 1
  have f2 := free_of HB.out 2
  go_wp2
  (try simp only [Exit.inBlock, Exit.then])
  refine bodyPost_ret (results_c rfl _ rfl (run_loadVar_row _ sb _ 63 _ _ _ (cells3 (.bool false) (.int .u64 ((0 : Nat) : Int)) (.int .u64 ((32767 : Nat) : Int)) HB.out) Try.underlying63 rfl (by kernel_rfl))) rfl ?_
  exact ⟨rfl, ((HK.out.setCell_new (p := ⟨sb, 0, none⟩) (by show _ ≤ sb; omega) _).setCell_new (p := ⟨sb, 1, none⟩) (by show _ ≤ sb; omega) _).setCell_new (p := ⟨sb, 2, none⟩) (by show _ ≤ sb; omega) _⟩

set_option maxRecDepth 20000 in
set_option maxHeartbeats 1000000 in
theorem f_great4 (w : World) : Calls Try.prog 62 #[.int .i64 4] w fun r w' => r = .returned (WV ⟨false, 0, 2147483647⟩) ∧ Keep (fun _ => False) w w' := by
  have hb := heap_alloc_new w (.cells Z3 63)
  have hk := (Keep.refl (fun _ => False) w).alloc (.cells Z3 63)
  have HB0 := hid hb; have HK0 := hid hk
  clear hb hk
  go_enter Try.func62, Try.ntmps62
  go_upto_region 1 with fail
  generalize w.alloc (.cells Z3 63) = w0 at *
  generalize hsb : w.heap.size = sb at *
  go_wp2_with fail
  refine (kind_of 4 _).mono ?_
  rintro r w1 ⟨s, rfl, hk1⟩
  rw [show sizeK 4 = 4 from rfl, show signK 4 = true from rfl]
  have hk2 := hk1.alloc (.cells #[.string s, .int .i64 4, .bool true] 104)
  have HB1 := hid (hk2.get HB0.out (fun h => h)); have HK1 := hid (HK0.out.trans hk2)
  clear hk1 hk2
  go_wp2_with fail
  refine (f_power 32 (by decide) _).mono ?_
  rintro r w' ⟨rfl, rfl⟩
  go_wp2_with fail
  refine (w_ofword 2147483647 _).mono ?_
  rintro r w2 ⟨rfl, hk2⟩
  have HK := hid (HK1.out.trans hk2)
  have HB := hid (hk2.get HB1.out (fun h => h))
  clear hk2
  have c0 := cell_of HB.out (i := 0) (by rfl)
  have c1 := cell_of HB.out (i := 1) (by rfl)
  have c2 := cell_of HB.out (i := 2) (by rfl)
  have f0 := free_of HB.out 0
  have f1 := free_of HB.out 1
  have f2 := free_of HB.out 2
  go_wp2
  (try simp only [Exit.inBlock, Exit.then])
  refine bodyPost_ret (results_c rfl _ rfl (run_loadVar_row _ sb _ 63 _ _ _ (cells3 (.bool false) (.int .u64 ((0 : Nat) : Int)) (.int .u64 ((2147483647 : Nat) : Int)) HB.out) Try.underlying63 rfl (by kernel_rfl))) rfl ?_
  exact ⟨rfl, ((HK.out.setCell_new (p := ⟨sb, 0, none⟩) (by show _ ≤ sb; omega) _).setCell_new (p := ⟨sb, 1, none⟩) (by show _ ≤ sb; omega) _).setCell_new (p := ⟨sb, 2, none⟩) (by show _ ≤ sb; omega) _⟩

set_option maxRecDepth 20000 in
set_option maxHeartbeats 1000000 in
theorem f_great5 (w : World) : Calls Try.prog 62 #[.int .i64 5] w fun r w' => r = .returned (WV ⟨false, 0, 9223372036854775807⟩) ∧ Keep (fun _ => False) w w' := by
  have hb := heap_alloc_new w (.cells Z3 63)
  have hk := (Keep.refl (fun _ => False) w).alloc (.cells Z3 63)
  have HB0 := hid hb; have HK0 := hid hk
  clear hb hk
  go_enter Try.func62, Try.ntmps62
  go_upto_region 1 with fail
  generalize w.alloc (.cells Z3 63) = w0 at *
  generalize hsb : w.heap.size = sb at *
  go_wp2_with fail
  refine (kind_of 5 _).mono ?_
  rintro r w1 ⟨s, rfl, hk1⟩
  rw [show sizeK 5 = 8 from rfl, show signK 5 = true from rfl]
  have hk2 := hk1.alloc (.cells #[.string s, .int .i64 8, .bool true] 104)
  have HB1 := hid (hk2.get HB0.out (fun h => h)); have HK1 := hid (HK0.out.trans hk2)
  clear hk1 hk2
  go_wp2_with fail
  refine (f_power 64 (by decide) _).mono ?_
  rintro r w' ⟨rfl, rfl⟩
  go_wp2_with fail
  refine (w_ofword 9223372036854775807 _).mono ?_
  rintro r w2 ⟨rfl, hk2⟩
  have HK := hid (HK1.out.trans hk2)
  have HB := hid (hk2.get HB1.out (fun h => h))
  clear hk2
  have c0 := cell_of HB.out (i := 0) (by rfl)
  have c1 := cell_of HB.out (i := 1) (by rfl)
  have c2 := cell_of HB.out (i := 2) (by rfl)
  have f0 := free_of HB.out 0
  have f1 := free_of HB.out 1
  have f2 := free_of HB.out 2
  go_wp2
  (try simp only [Exit.inBlock, Exit.then])
  refine bodyPost_ret (results_c rfl _ rfl (run_loadVar_row _ sb _ 63 _ _ _ (cells3 (.bool false) (.int .u64 ((0 : Nat) : Int)) (.int .u64 ((9223372036854775807 : Nat) : Int)) HB.out) Try.underlying63 rfl (by kernel_rfl))) rfl ?_
  exact ⟨rfl, ((HK.out.setCell_new (p := ⟨sb, 0, none⟩) (by show _ ≤ sb; omega) _).setCell_new (p := ⟨sb, 1, none⟩) (by show _ ≤ sb; omega) _).setCell_new (p := ⟨sb, 2, none⟩) (by show _ ≤ sb; omega) _⟩

set_option maxRecDepth 20000 in
set_option maxHeartbeats 1000000 in
theorem f_great6 (w : World) : Calls Try.prog 62 #[.int .i64 6] w fun r w' => r = .returned (WV ⟨false, 0, 255⟩) ∧ Keep (fun _ => False) w w' := by
  have hb := heap_alloc_new w (.cells Z3 63)
  have hk := (Keep.refl (fun _ => False) w).alloc (.cells Z3 63)
  have HB0 := hid hb; have HK0 := hid hk
  clear hb hk
  go_enter Try.func62, Try.ntmps62
  go_upto_region 1 with fail
  generalize w.alloc (.cells Z3 63) = w0 at *
  generalize hsb : w.heap.size = sb at *
  go_wp2_with fail
  refine (kind_of 6 _).mono ?_
  rintro r w1 ⟨s, rfl, hk1⟩
  rw [show sizeK 6 = 1 from rfl, show signK 6 = false from rfl]
  have hk2 := hk1.alloc (.cells #[.string s, .int .i64 1, .bool false] 104)
  have HB1 := hid (hk2.get HB0.out (fun h => h)); have HK1 := hid (HK0.out.trans hk2)
  clear hk1 hk2
  go_wp2_with fail
  refine (f_power 8 (by decide) _).mono ?_
  rintro r w' ⟨rfl, rfl⟩
  go_wp2_with fail
  refine (w_ofword 255 _).mono ?_
  rintro r w2 ⟨rfl, hk2⟩
  have HK := hid (HK1.out.trans hk2)
  have HB := hid (hk2.get HB1.out (fun h => h))
  clear hk2
  have c0 := cell_of HB.out (i := 0) (by rfl)
  have c1 := cell_of HB.out (i := 1) (by rfl)
  have c2 := cell_of HB.out (i := 2) (by rfl)
  have f0 := free_of HB.out 0
  have f1 := free_of HB.out 1
  have f2 := free_of HB.out 2
  go_wp2
  (try simp only [Exit.inBlock, Exit.then])
  refine bodyPost_ret (results_c rfl _ rfl (run_loadVar_row _ sb _ 63 _ _ _ (cells3 (.bool false) (.int .u64 ((0 : Nat) : Int)) (.int .u64 ((255 : Nat) : Int)) HB.out) Try.underlying63 rfl (by kernel_rfl))) rfl ?_
  exact ⟨rfl, ((HK.out.setCell_new (p := ⟨sb, 0, none⟩) (by show _ ≤ sb; omega) _).setCell_new (p := ⟨sb, 1, none⟩) (by show _ ≤ sb; omega) _).setCell_new (p := ⟨sb, 2, none⟩) (by show _ ≤ sb; omega) _⟩

set_option maxRecDepth 20000 in
set_option maxHeartbeats 1000000 in
theorem f_great7 (w : World) : Calls Try.prog 62 #[.int .i64 7] w fun r w' => r = .returned (WV ⟨false, 0, 65535⟩) ∧ Keep (fun _ => False) w w' := by
  have hb := heap_alloc_new w (.cells Z3 63)
  have hk := (Keep.refl (fun _ => False) w).alloc (.cells Z3 63)
  have HB0 := hid hb; have HK0 := hid hk
  clear hb hk
  go_enter Try.func62, Try.ntmps62
  go_upto_region 1 with fail
  generalize w.alloc (.cells Z3 63) = w0 at *
  generalize hsb : w.heap.size = sb at *
  go_wp2_with fail
  refine (kind_of 7 _).mono ?_
  rintro r w1 ⟨s, rfl, hk1⟩
  rw [show sizeK 7 = 2 from rfl, show signK 7 = false from rfl]
  have hk2 := hk1.alloc (.cells #[.string s, .int .i64 2, .bool false] 104)
  have HB1 := hid (hk2.get HB0.out (fun h => h)); have HK1 := hid (HK0.out.trans hk2)
  clear hk1 hk2
  go_wp2_with fail
  refine (f_power 16 (by decide) _).mono ?_
  rintro r w' ⟨rfl, rfl⟩
  go_wp2_with fail
  refine (w_ofword 65535 _).mono ?_
  rintro r w2 ⟨rfl, hk2⟩
  have HK := hid (HK1.out.trans hk2)
  have HB := hid (hk2.get HB1.out (fun h => h))
  clear hk2
  have c0 := cell_of HB.out (i := 0) (by rfl)
  have c1 := cell_of HB.out (i := 1) (by rfl)
  have c2 := cell_of HB.out (i := 2) (by rfl)
  have f0 := free_of HB.out 0
  have f1 := free_of HB.out 1
  have f2 := free_of HB.out 2
  go_wp2
  (try simp only [Exit.inBlock, Exit.then])
  refine bodyPost_ret (results_c rfl _ rfl (run_loadVar_row _ sb _ 63 _ _ _ (cells3 (.bool false) (.int .u64 ((0 : Nat) : Int)) (.int .u64 ((65535 : Nat) : Int)) HB.out) Try.underlying63 rfl (by kernel_rfl))) rfl ?_
  exact ⟨rfl, ((HK.out.setCell_new (p := ⟨sb, 0, none⟩) (by show _ ≤ sb; omega) _).setCell_new (p := ⟨sb, 1, none⟩) (by show _ ≤ sb; omega) _).setCell_new (p := ⟨sb, 2, none⟩) (by show _ ≤ sb; omega) _⟩

set_option maxRecDepth 20000 in
set_option maxHeartbeats 1000000 in
theorem f_great8 (w : World) : Calls Try.prog 62 #[.int .i64 8] w fun r w' => r = .returned (WV ⟨false, 0, 4294967295⟩) ∧ Keep (fun _ => False) w w' := by
  have hb := heap_alloc_new w (.cells Z3 63)
  have hk := (Keep.refl (fun _ => False) w).alloc (.cells Z3 63)
  have HB0 := hid hb; have HK0 := hid hk
  clear hb hk
  go_enter Try.func62, Try.ntmps62
  go_upto_region 1 with fail
  generalize w.alloc (.cells Z3 63) = w0 at *
  generalize hsb : w.heap.size = sb at *
  go_wp2_with fail
  refine (kind_of 8 _).mono ?_
  rintro r w1 ⟨s, rfl, hk1⟩
  rw [show sizeK 8 = 4 from rfl, show signK 8 = false from rfl]
  have hk2 := hk1.alloc (.cells #[.string s, .int .i64 4, .bool false] 104)
  have HB1 := hid (hk2.get HB0.out (fun h => h)); have HK1 := hid (HK0.out.trans hk2)
  clear hk1 hk2
  go_wp2_with fail
  refine (f_power 32 (by decide) _).mono ?_
  rintro r w' ⟨rfl, rfl⟩
  go_wp2_with fail
  refine (w_ofword 4294967295 _).mono ?_
  rintro r w2 ⟨rfl, hk2⟩
  have HK := hid (HK1.out.trans hk2)
  have HB := hid (hk2.get HB1.out (fun h => h))
  clear hk2
  have c0 := cell_of HB.out (i := 0) (by rfl)
  have c1 := cell_of HB.out (i := 1) (by rfl)
  have c2 := cell_of HB.out (i := 2) (by rfl)
  have f0 := free_of HB.out 0
  have f1 := free_of HB.out 1
  have f2 := free_of HB.out 2
  go_wp2
  (try simp only [Exit.inBlock, Exit.then])
  refine bodyPost_ret (results_c rfl _ rfl (run_loadVar_row _ sb _ 63 _ _ _ (cells3 (.bool false) (.int .u64 ((0 : Nat) : Int)) (.int .u64 ((4294967295 : Nat) : Int)) HB.out) Try.underlying63 rfl (by kernel_rfl))) rfl ?_
  exact ⟨rfl, ((HK.out.setCell_new (p := ⟨sb, 0, none⟩) (by show _ ≤ sb; omega) _).setCell_new (p := ⟨sb, 1, none⟩) (by show _ ≤ sb; omega) _).setCell_new (p := ⟨sb, 2, none⟩) (by show _ ≤ sb; omega) _⟩

set_option maxRecDepth 20000 in
set_option maxHeartbeats 1000000 in
theorem f_great9 (w : World) : Calls Try.prog 62 #[.int .i64 9] w fun r w' => r = .returned (WV ⟨false, 0, 18446744073709551615⟩) ∧ Keep (fun _ => False) w w' := by
  have hb := heap_alloc_new w (.cells Z3 63)
  have hk := (Keep.refl (fun _ => False) w).alloc (.cells Z3 63)
  have HB0 := hid hb; have HK0 := hid hk
  clear hb hk
  go_enter Try.func62, Try.ntmps62
  go_upto_region 1 with fail
  generalize w.alloc (.cells Z3 63) = w0 at *
  generalize hsb : w.heap.size = sb at *
  go_wp2_with fail
  refine (kind_of 9 _).mono ?_
  rintro r w1 ⟨s, rfl, hk1⟩
  rw [show sizeK 9 = 8 from rfl, show signK 9 = false from rfl]
  have hk2 := hk1.alloc (.cells #[.string s, .int .i64 8, .bool false] 104)
  have HB1 := hid (hk2.get HB0.out (fun h => h)); have HK1 := hid (HK0.out.trans hk2)
  clear hk1 hk2
  go_wp2_with fail
  refine (f_power 64 (by decide) _).mono ?_
  rintro r w' ⟨rfl, rfl⟩
  go_wp2_with fail
  refine (w_ofword 18446744073709551615 _).mono ?_
  rintro r w2 ⟨rfl, hk2⟩
  have HK := hid (HK1.out.trans hk2)
  have HB := hid (hk2.get HB1.out (fun h => h))
  clear hk2
  have c0 := cell_of HB.out (i := 0) (by rfl)
  have c1 := cell_of HB.out (i := 1) (by rfl)
  have c2 := cell_of HB.out (i := 2) (by rfl)
  have f0 := free_of HB.out 0
  have f1 := free_of HB.out 1
  have f2 := free_of HB.out 2
  go_wp2
  (try simp only [Exit.inBlock, Exit.then])
  refine bodyPost_ret (results_c rfl _ rfl (run_loadVar_row _ sb _ 63 _ _ _ (cells3 (.bool false) (.int .u64 ((0 : Nat) : Int)) (.int .u64 ((18446744073709551615 : Nat) : Int)) HB.out) Try.underlying63 rfl (by kernel_rfl))) rfl ?_
  exact ⟨rfl, ((HK.out.setCell_new (p := ⟨sb, 0, none⟩) (by show _ ≤ sb; omega) _).setCell_new (p := ⟨sb, 1, none⟩) (by show _ ≤ sb; omega) _).setCell_new (p := ⟨sb, 2, none⟩) (by show _ ≤ sb; omega) _⟩

set_option maxRecDepth 20000 in
set_option maxHeartbeats 1000000 in
theorem f_great10 (w : World) : Calls Try.prog 62 #[.int .i64 10] w fun r w' => r = .returned (WV ⟨false, 0, 18446744073709551615⟩) ∧ Keep (fun _ => False) w w' := by
  have hb := heap_alloc_new w (.cells Z3 63)
  have hk := (Keep.refl (fun _ => False) w).alloc (.cells Z3 63)
  have HB0 := hid hb; have HK0 := hid hk
  clear hb hk
  go_enter Try.func62, Try.ntmps62
  go_upto_region 1 with fail
  generalize w.alloc (.cells Z3 63) = w0 at *
  generalize hsb : w.heap.size = sb at *
  go_wp2_with fail
  refine (kind_of 10 _).mono ?_
  rintro r w1 ⟨s, rfl, hk1⟩
  rw [show sizeK 10 = 8 from rfl, show signK 10 = false from rfl]
  have hk2 := hk1.alloc (.cells #[.string s, .int .i64 8, .bool false] 104)
  have HB1 := hid (hk2.get HB0.out (fun h => h)); have HK1 := hid (HK0.out.trans hk2)
  clear hk1 hk2
  go_wp2_with fail
  refine (f_power 64 (by decide) _).mono ?_
  rintro r w' ⟨rfl, rfl⟩
  go_wp2_with fail
  refine (w_ofword 18446744073709551615 _).mono ?_
  rintro r w2 ⟨rfl, hk2⟩
  have HK := hid (HK1.out.trans hk2)
  have HB := hid (hk2.get HB1.out (fun h => h))
  clear hk2
  have c0 := cell_of HB.out (i := 0) (by rfl)
  have c1 := cell_of HB.out (i := 1) (by rfl)
  have c2 := cell_of HB.out (i := 2) (by rfl)
  have f0 := free_of HB.out 0
  have f1 := free_of HB.out 1
  have f2 := free_of HB.out 2
  go_wp2
  (try simp only [Exit.inBlock, Exit.then])
  refine bodyPost_ret (results_c rfl _ rfl (run_loadVar_row _ sb _ 63 _ _ _ (cells3 (.bool false) (.int .u64 ((0 : Nat) : Int)) (.int .u64 ((18446744073709551615 : Nat) : Int)) HB.out) Try.underlying63 rfl (by kernel_rfl))) rfl ?_
  exact ⟨rfl, ((HK.out.setCell_new (p := ⟨sb, 0, none⟩) (by show _ ≤ sb; omega) _).setCell_new (p := ⟨sb, 1, none⟩) (by show _ ≤ sb; omega) _).setCell_new (p := ⟨sb, 2, none⟩) (by show _ ≤ sb; omega) _⟩

theorem f_great (k : Int) (h1 : 1 ≤ k) (h2 : k ≤ 10) (w : World) : Calls Try.prog 62 #[.int .i64 k] w fun r w' => r = .returned (WV ⟨false, 0, greatN k⟩) ∧ Keep (fun _ => False) w w' := by
  have hk : k = 1 ∨ k = 2 ∨ k = 3 ∨ k = 4 ∨ k = 5 ∨ k = 6 ∨ k = 7 ∨ k = 8 ∨ k = 9 ∨ k = 10 := by omega
  rcases hk with rfl | rfl | rfl | rfl | rfl | rfl | rfl | rfl | rfl | rfl
  · exact f_great1 w
  · exact f_great2 w
  · exact f_great3 w
  · exact f_great4 w
  · exact f_great5 w
  · exact f_great6 w
  · exact f_great7 w
  · exact f_great8 w
  · exact f_great9 w
  · exact f_great10 w

end Go.Proofs.Ythpafpgillnimaa
