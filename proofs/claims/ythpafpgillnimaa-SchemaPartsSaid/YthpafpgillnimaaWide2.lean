/- What is proved: what made, OfWord, Of, Neg, check, fit of the great numbers answer, and Add and Sub where both are less than nought. -/
import Derived.Test.YthpafpgillnimaaWide
import Derived.Test.YthpafpgillnimaaRegion
import Derived.Laws.Externs
namespace Go.Proofs.Ythpafpgillnimaa
open Go.RowKit Go.Proofs.Heap Go.Proofs.Wide

abbrev Z3 : Array Value := #[.bool false, .int .u64 0, .int .u64 0]
def normW (ng : Bool) (hi lo : Nat) : WI := ⟨ng && decide (hi * 18446744073709551616 + lo ≠ 0), hi, lo⟩

set_option maxRecDepth 20000 in
theorem w_made (ng : Bool) (hi lo : Nat) (h1 : hi < 18446744073709551616) (h2 : lo < 18446744073709551616) (w : World) : Calls Try.prog 46 #[.bool ng, .int .u64 (hi : Int), .int .u64 (lo : Int)] w fun r w' => r = .returned (WV (normW ng hi lo)) ∧ Keep (fun _ => False) w w' := by
  obtain ⟨z, hz, hz0⟩ := or_zero hi lo h1 h2
  have hb := heap_alloc_new w (.cells Z3 63)
  have hk := (Keep.refl (fun _ => False) w).alloc (.cells Z3 63)
  have HB := hid hb; have HK := hid hk
  have HN : Hid (∀ b : Bool, decide (hi * 18446744073709551616 + lo ≠ 0) = b ↔ decide (z ≠ 0) = b) := hid (fun b => by
    have : (hi * 18446744073709551616 + lo ≠ 0) ↔ z ≠ 0 := by rw [Ne, Ne, hz0]; omega
    simp only [this])
  clear hz0 hb hk
  go_enter Try.func46, Try.ntmps46
  go_upto_region 1 with fail
  generalize w.alloc (.cells Z3 63) = w0 at *
  generalize hsb : w.heap.size = sb at *
  have c0 := cell_of HB.out (i := 0) (by rfl)
  have c1 := cell_of HB.out (i := 1) (by rfl)
  have c2 := cell_of HB.out (i := 2) (by rfl)
  have f0 := free_of HB.out 0
  have f1 := free_of HB.out 1
  have f2 := free_of HB.out 2
  cases ng
  · go_wp2
    (try simp only [Exit.inBlock, Exit.then])
    refine bodyPost_ret (results_c rfl _ rfl (run_loadVar_row _ sb _ 63 _ _ _ (cells3 (.bool false) (.int .u64 (hi : Int)) (.int .u64 (lo : Int)) HB.out) Try.underlying63 rfl (by kernel_rfl))) rfl ?_
    exact ⟨by simp [normW], ((HK.out.setCell_new (p := ⟨sb, 0, none⟩) (by show _ ≤ sb; omega) _).setCell_new (p := ⟨sb, 1, none⟩) (by show _ ≤ sb; omega) _).setCell_new (p := ⟨sb, 2, none⟩) (by show _ ≤ sb; omega) _⟩
  · by_cases hz1 : z = 0
    · have g2 : ((z : Int) == 0) = true := beq_iff_eq.2 (by omega)
      have g3 : ((z : Int) != 0) = false := by rw [bne, g2]; rfl
      have G := hid ((HN.out false).2 (by simp [hz1]))
      clear hz1
      go_wp2
      (try simp only [Exit.inBlock, Exit.then])
      refine bodyPost_ret (results_c rfl _ rfl (run_loadVar_row _ sb _ 63 _ _ _ (cells3 (.bool false) (.int .u64 (hi : Int)) (.int .u64 (lo : Int)) HB.out) Try.underlying63 rfl (by kernel_rfl))) rfl ?_
      exact ⟨by rw [normW, G.out]; rfl, ((HK.out.setCell_new (p := ⟨sb, 0, none⟩) (by show _ ≤ sb; omega) _).setCell_new (p := ⟨sb, 1, none⟩) (by show _ ≤ sb; omega) _).setCell_new (p := ⟨sb, 2, none⟩) (by show _ ≤ sb; omega) _⟩
    · have g2 : ((z : Int) == 0) = false := beq_eq_false_iff_ne.2 (by omega)
      have g3 : ((z : Int) != 0) = true := by rw [bne, g2]; rfl
      have G := hid ((HN.out true).2 (by simp [hz1]))
      go_wp2
      (try simp only [Exit.inBlock, Exit.then])
      refine bodyPost_ret (results_c rfl _ rfl (run_loadVar_row _ sb _ 63 _ _ _ (cells3 (.bool true) (.int .u64 (hi : Int)) (.int .u64 (lo : Int)) HB.out) Try.underlying63 rfl (by kernel_rfl))) rfl ?_
      exact ⟨by rw [normW, G.out]; rfl, ((HK.out.setCell_new (p := ⟨sb, 0, none⟩) (by show _ ≤ sb; omega) _).setCell_new (p := ⟨sb, 1, none⟩) (by show _ ≤ sb; omega) _).setCell_new (p := ⟨sb, 2, none⟩) (by show _ ≤ sb; omega) _⟩

set_option maxRecDepth 20000 in
theorem w_ofword (n : Nat) (w : World) : Calls Try.prog 47 #[.int .u64 (n : Int)] w fun r w' => r = .returned (WV ⟨false, 0, n⟩) ∧ Keep (fun _ => False) w w' := by
  have hb := heap_alloc_new w (.cells Z3 63)
  have hk := (Keep.refl (fun _ => False) w).alloc (.cells Z3 63)
  have HB := hid hb; have HK := hid hk
  clear hb hk
  go_enter Try.func47, Try.ntmps47
  go_upto_region 1 with fail
  generalize w.alloc (.cells Z3 63) = w0 at *
  generalize hsb : w.heap.size = sb at *
  have c0 := cell_of HB.out (i := 0) (by rfl)
  have c1 := cell_of HB.out (i := 1) (by rfl)
  have c2 := cell_of HB.out (i := 2) (by rfl)
  have f0 := free_of HB.out 0
  have f1 := free_of HB.out 1
  have f2 := free_of HB.out 2
  go_wp2
  (try simp only [Exit.inBlock, Exit.then])
  refine bodyPost_ret (results_c rfl _ rfl (run_loadVar_row _ sb _ 63 _ _ _ (cells3 (.bool false) (.int .u64 0) (.int .u64 (n : Int)) HB.out) Try.underlying63 rfl (by kernel_rfl))) rfl ?_
  exact ⟨rfl, ((HK.out.setCell_new (p := ⟨sb, 0, none⟩) (by show _ ≤ sb; omega) _).setCell_new (p := ⟨sb, 1, none⟩) (by show _ ≤ sb; omega) _).setCell_new (p := ⟨sb, 2, none⟩) (by show _ ≤ sb; omega) _⟩

set_option maxRecDepth 20000 in
theorem w_of (n : Nat) (hn : n < 9223372036854775808) (w : World) : Calls Try.prog 28 #[.int .i64 (n : Int)] w fun r w' => r = .returned (WV ⟨false, 0, n⟩) ∧ Keep (fun _ => False) w w' := by
  have hb := heap_alloc_new w (.cells Z3 63)
  have hk := (Keep.refl (fun _ => False) w).alloc (.cells Z3 63)
  have HB0 := hid hb; have HK0 := hid hk
  clear hb hk
  go_enter Try.func28, Try.ntmps28
  go_upto_region 1 with fail
  generalize w.alloc (.cells Z3 63) = w0 at *
  generalize hsb : w.heap.size = sb at *
  have g1 : decide ((n : Int) < 0) = false := decide_eq_false (by omega)
  go_wp2_with fail
  refine (w_ofword n _).mono ?_
  rintro r w1 ⟨rfl, hk1⟩
  have HK := hid (HK0.out.trans hk1)
  have HB := hid (hk1.get HB0.out (fun h => h))
  clear hk1
  have c0 := cell_of HB.out (i := 0) (by rfl)
  have c1 := cell_of HB.out (i := 1) (by rfl)
  have c2 := cell_of HB.out (i := 2) (by rfl)
  have f0 := free_of HB.out 0
  have f1 := free_of HB.out 1
  have f2 := free_of HB.out 2
  go_wp2
  (try simp only [Exit.inBlock, Exit.then])
  refine bodyPost_ret (results_c rfl _ rfl (run_loadVar_row _ sb _ 63 _ _ _ (cells3 (.bool false) (.int .u64 0) (.int .u64 (n : Int)) HB.out) Try.underlying63 rfl (by kernel_rfl))) rfl ?_
  exact ⟨rfl, ((HK.out.setCell_new (p := ⟨sb, 0, none⟩) (by show _ ≤ sb; omega) _).setCell_new (p := ⟨sb, 1, none⟩) (by show _ ≤ sb; omega) _).setCell_new (p := ⟨sb, 2, none⟩) (by show _ ≤ sb; omega) _⟩

set_option maxRecDepth 20000 in
theorem w_neg (x : WI) (hx : x.fit) (hf : x.form = true) (w : World) : Calls Try.prog 70 #[WV x] w fun r w' => r = .returned (WV (normW (!x.neg) x.hi x.lo)) ∧ Keep (fun _ => False) w w' := by
  have hk0 : Keep (fun _ => False) w ((w.alloc (.cells (WC x) 63)).alloc (.cells Z3 63)) := ((Keep.refl (fun _ => False) w).alloc _).alloc _
  have hb1 : ((w.alloc (.cells (WC x) 63)).alloc (.cells Z3 63)).heap[w.heap.size]? = some (.cells (WC x) 63 (0, 0)) := (((Keep.refl (fun _ => False) _).alloc _).get (heap_alloc_new w _) (fun h => h))
  have hb2 : ((w.alloc (.cells (WC x) 63)).alloc (.cells Z3 63)).heap[w.heap.size + 1]? = some (.cells Z3 63 (0, 0)) := by
    have := heap_alloc_new (w.alloc (.cells (WC x) 63)) (.cells Z3 63)
    simpa using this
  have HK0 := hid hk0; have HB1 := hid hb1; have HB2 := hid hb2
  clear hk0 hb1 hb2
  go_enter Try.func70, Try.ntmps70
  go_upto_region 1 with fail
  generalize (w.alloc (.cells (WC x) 63)).alloc (.cells Z3 63) = w0 at *
  generalize hsb : w.heap.size = sb at *
  have HX := hid hx; have HF := hid hf
  clear hx hf
  have a0 : w0.cell? ⟨sb, 0, none⟩ = some (.bool x.neg) := cell_of HB1.out (by rfl)
  have a1 : w0.cell? ⟨sb, 1, none⟩ = some (.int .u64 (x.hi : Int)) := cell_of HB1.out (by rfl)
  have a2 : w0.cell? ⟨sb, 2, none⟩ = some (.int .u64 (x.lo : Int)) := cell_of HB1.out (by rfl)
  go_wp2_with fail
  refine (w_form x HX.out _).mono ?_
  rintro r w1 ⟨rfl, hk1⟩
  rw [HF.out]
  have HK1 := hid (HK0.out.trans hk1)
  have HB3 := hid (hk1.get HB1.out (fun h => h)); have HB4 := hid (hk1.get HB2.out (fun h => h))
  clear hk1 a0 a1 a2
  have a0 : w1.cell? ⟨sb, 0, none⟩ = some (.bool x.neg) := cell_of HB3.out (by rfl)
  have a1 : w1.cell? ⟨sb, 1, none⟩ = some (.int .u64 (x.hi : Int)) := cell_of HB3.out (by rfl)
  have a2 : w1.cell? ⟨sb, 2, none⟩ = some (.int .u64 (x.lo : Int)) := cell_of HB3.out (by rfl)
  go_wp2_with fail
  refine (w_made (!x.neg) x.hi x.lo HX.out.1 HX.out.2 _).mono ?_
  rintro r w2 ⟨rfl, hk2⟩
  have HK := hid (HK1.out.trans hk2)
  have HB := hid (hk2.get HB4.out (fun h => h))
  clear hk2 a0 a1 a2
  generalize hy : normW (!x.neg) x.hi x.lo = y at *
  have HY := hid hy
  clear hy
  have c0 := cell_of HB.out (i := 0) (by rfl)
  have c1 := cell_of HB.out (i := 1) (by rfl)
  have c2 := cell_of HB.out (i := 2) (by rfl)
  have f0 := free_of HB.out 0
  have f1 := free_of HB.out 1
  have f2 := free_of HB.out 2
  go_wp2
  (try simp only [Exit.inBlock, Exit.then])
  refine bodyPost_ret (results_c rfl _ rfl (run_loadVar_row _ (sb + 1) _ 63 _ _ _ (cells3 (.bool y.neg) (.int .u64 (y.hi : Int)) (.int .u64 (y.lo : Int)) HB.out) Try.underlying63 rfl (by kernel_rfl))) rfl ?_
  exact ⟨by rw [HY.out], ((HK.out.setCell_new (p := ⟨sb + 1, 0, none⟩) (by show _ ≤ (sb + 1); omega) _).setCell_new (p := ⟨sb + 1, 1, none⟩) (by show _ ≤ (sb + 1); omega) _).setCell_new (p := ⟨sb + 1, 2, none⟩) (by show _ ≤ (sb + 1); omega) _⟩

set_option maxRecDepth 20000 in
theorem w_check (x y : WI) (hx : x.fit) (hy : y.fit) (fx : x.form = true) (fy : y.form = true) (w : World) : Calls Try.prog 75 #[WV x, WV y, .bool false] w fun r w' => r = .returned (.int .i64 0) ∧ Keep (fun _ => False) w w' := by
  have hk0 : Keep (fun _ => False) w ((w.alloc (.cells (WC x) 63)).alloc (.cells (WC y) 63)) := ((Keep.refl (fun _ => False) w).alloc _).alloc _
  have hb2 : ((w.alloc (.cells (WC x) 63)).alloc (.cells (WC y) 63)).heap[w.heap.size + 1]? = some (.cells (WC y) 63 (0, 0)) := by
    have := heap_alloc_new (w.alloc (.cells (WC x) 63)) (.cells (WC y) 63)
    simpa using this
  have HK0 := hid hk0; have HB2 := hid hb2
  have HX := hid hx; have HY := hid hy; have FX := hid fx; have FY := hid fy
  clear hk0 hb2 hx hy fx fy
  go_enter Try.func75, Try.ntmps75
  go_wp2_with fail
  refine (w_form x HX.out _).mono ?_
  rintro r w1 ⟨rfl, hk1⟩
  rw [FX.out]
  have HK1 := hid (HK0.out.trans hk1)
  have HB := hid (hk1.get HB2.out (fun h => h))
  clear hk1
  generalize w.heap.size = sb at *
  have a0 : w1.cell? ⟨sb + 1, 0, none⟩ = some (.bool y.neg) := cell_of HB.out (by rfl)
  have a1 : w1.cell? ⟨sb + 1, 1, none⟩ = some (.int .u64 (y.hi : Int)) := cell_of HB.out (by rfl)
  have a2 : w1.cell? ⟨sb + 1, 2, none⟩ = some (.int .u64 (y.lo : Int)) := cell_of HB.out (by rfl)
  go_wp2_with fail
  refine (w_form y HY.out _).mono ?_
  rintro r w2 ⟨rfl, hk2⟩
  rw [FY.out]
  have HK2 := hid (HK1.out.trans hk2)
  clear hk2 a0 a1 a2
  go_wp2
  go_ret
  exact ⟨rfl, HK2.out⟩

set_option maxRecDepth 20000 in
theorem w_fit (ng : Bool) (hi lo : Nat) (h1 : hi < 9223372036854775808) (h2 : lo < 18446744073709551616) (w : World) : Calls Try.prog 78 #[.bool ng, .int .u64 (hi : Int), .int .u64 (lo : Int)] w fun r w' => r = .returned (.tuple #[WV (normW ng hi lo), .int .i64 0]) ∧ Keep (fun _ => False) w w' := by
  have hb := heap_alloc_new w (.cells Z3 63)
  have hk := (Keep.refl (fun _ => False) w).alloc (.cells Z3 63)
  have HB0 := hid hb; have HK0 := hid hk
  clear hb hk
  go_enter Try.func78, Try.ntmps78
  go_upto_region 1 with fail
  generalize w.alloc (.cells Z3 63) = w0 at *
  generalize hsb : w.heap.size = sb at *
  have g1 : decide ((9223372036854775808 : Int) ≤ (hi : Int)) = false := decide_eq_false (by omega)
  go_wp2_with fail
  refine (w_made ng hi lo (by omega) h2 _).mono ?_
  rintro r w1 ⟨rfl, hk1⟩
  have HK := hid (HK0.out.trans hk1)
  have HB := hid (hk1.get HB0.out (fun h => h))
  clear hk1
  generalize hy : normW ng hi lo = y at *
  have HY := hid hy
  clear hy
  have c0 := cell_of HB.out (i := 0) (by rfl)
  have c1 := cell_of HB.out (i := 1) (by rfl)
  have c2 := cell_of HB.out (i := 2) (by rfl)
  have f0 := free_of HB.out 0
  have f1 := free_of HB.out 1
  have f2 := free_of HB.out 2
  go_wp2
  (try simp only [Exit.inBlock, Exit.then])
  refine bodyPost_ret (results_ct rfl _ rfl (run_loadVar_row _ sb _ 63 _ _ _ (cells3 (.bool y.neg) (.int .u64 (y.hi : Int)) (.int .u64 (y.lo : Int)) HB.out) Try.underlying63 rfl (by kernel_rfl))) rfl ?_
  exact ⟨by rw [HY.out]; rfl, ((HK.out.setCell_new (p := ⟨sb, 0, none⟩) (by show _ ≤ sb; omega) _).setCell_new (p := ⟨sb, 1, none⟩) (by show _ ≤ sb; omega) _).setCell_new (p := ⟨sb, 2, none⟩) (by show _ ≤ sb; omega) _⟩

end Go.Proofs.Ythpafpgillnimaa
