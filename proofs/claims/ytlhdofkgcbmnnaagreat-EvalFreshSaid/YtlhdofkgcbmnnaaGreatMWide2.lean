/- What is proved: what made, OfWord, Of, Neg, check, fit of the great numbers answer, and Add and Sub where both are less than nought. -/
import Derived.Test.YtlhdofkgcbmnnaaGreatMLay
import Derived.Test.YtlhdofkgcbmnnaaGreatMRegion
import Derived.Laws.Externs
namespace Go.Proofs.YtlhdofkgcbmnnaaGreat
open Go.RowKit Go.Proofs.Heap Go.Proofs.Wide

abbrev Z3 : Array Value := #[.bool false, .int .u64 0, .int .u64 0]
def normW (ng : Bool) (hi lo : Nat) : WI := ⟨ng && decide (hi * 18446744073709551616 + lo ≠ 0), hi, lo⟩

set_option maxRecDepth 20000 in
theorem w_made (ng : Bool) (hi lo : Nat) (h1 : hi < 18446744073709551616) (h2 : lo < 18446744073709551616) (w : World) : Calls Tryz.prog 66 #[.bool ng, .int .u64 (hi : Int), .int .u64 (lo : Int)] w fun r w' => r = .returned (WV (normW ng hi lo)) ∧ Keep (fun _ => False) w w' := by
  obtain ⟨z, hz, hz0⟩ := or_zero hi lo h1 h2
  have hb := heap_alloc_new w (.cells Z3 86)
  have hk := (Keep.refl (fun _ => False) w).alloc (.cells Z3 86)
  have HB := hid hb; have HK := hid hk
  have HN : Hid (∀ b : Bool, decide (hi * 18446744073709551616 + lo ≠ 0) = b ↔ decide (z ≠ 0) = b) := hid (fun b => by
    have : (hi * 18446744073709551616 + lo ≠ 0) ↔ z ≠ 0 := by rw [Ne, Ne, hz0]; omega
    simp only [this])
  clear hz0 hb hk
  go_enter Tryz.func66, Tryz.ntmps66
  go_upto_region 1 with fail
  generalize w.alloc (.cells Z3 86) = w0 at *
  generalize hsb : w.heap.size = sb at *
  have c0 := cell_of HB.out (i := 0) (by rfl)
  have c1 := cell_of HB.out (i := 1) (by rfl)
  have c2 := cell_of HB.out (i := 2) (by rfl)
  have f0 := free_of HB.out 0
  have f1 := free_of HB.out 1
  have f2 := free_of HB.out 2
  cases ng
  · go_wp2
    (try simp only [Exit.inBlock, Exit.then])
    refine bodyPost_ret (results_c rfl _ rfl (run_loadVar_row _ sb _ 86 _ _ _ (cells3 (.bool false) (.int .u64 (hi : Int)) (.int .u64 (lo : Int)) HB.out) Tryz.underlying86 rfl (by kernel_rfl))) rfl ?_
    exact ⟨by simp [normW], ((HK.out.setCell_new (p := ⟨sb, 0, none⟩) (by show _ ≤ sb; omega) _).setCell_new (p := ⟨sb, 1, none⟩) (by show _ ≤ sb; omega) _).setCell_new (p := ⟨sb, 2, none⟩) (by show _ ≤ sb; omega) _⟩
  · by_cases hz1 : z = 0
    · have g2 : ((z : Int) == 0) = true := beq_iff_eq.2 (by omega)
      have g3 : ((z : Int) != 0) = false := by rw [bne, g2]; rfl
      have G := hid ((HN.out false).2 (by simp [hz1]))
      clear hz1
      go_wp2
      (try simp only [Exit.inBlock, Exit.then])
      refine bodyPost_ret (results_c rfl _ rfl (run_loadVar_row _ sb _ 86 _ _ _ (cells3 (.bool false) (.int .u64 (hi : Int)) (.int .u64 (lo : Int)) HB.out) Tryz.underlying86 rfl (by kernel_rfl))) rfl ?_
      exact ⟨by rw [normW, G.out]; rfl, ((HK.out.setCell_new (p := ⟨sb, 0, none⟩) (by show _ ≤ sb; omega) _).setCell_new (p := ⟨sb, 1, none⟩) (by show _ ≤ sb; omega) _).setCell_new (p := ⟨sb, 2, none⟩) (by show _ ≤ sb; omega) _⟩
    · have g2 : ((z : Int) == 0) = false := beq_eq_false_iff_ne.2 (by omega)
      have g3 : ((z : Int) != 0) = true := by rw [bne, g2]; rfl
      have G := hid ((HN.out true).2 (by simp [hz1]))
      go_wp2
      (try simp only [Exit.inBlock, Exit.then])
      refine bodyPost_ret (results_c rfl _ rfl (run_loadVar_row _ sb _ 86 _ _ _ (cells3 (.bool true) (.int .u64 (hi : Int)) (.int .u64 (lo : Int)) HB.out) Tryz.underlying86 rfl (by kernel_rfl))) rfl ?_
      exact ⟨by rw [normW, G.out]; rfl, ((HK.out.setCell_new (p := ⟨sb, 0, none⟩) (by show _ ≤ sb; omega) _).setCell_new (p := ⟨sb, 1, none⟩) (by show _ ≤ sb; omega) _).setCell_new (p := ⟨sb, 2, none⟩) (by show _ ≤ sb; omega) _⟩

set_option maxRecDepth 20000 in
theorem w_ofword (n : Nat) (w : World) : Calls Tryz.prog 67 #[.int .u64 (n : Int)] w fun r w' => r = .returned (WV ⟨false, 0, n⟩) ∧ Keep (fun _ => False) w w' := by
  have hb := heap_alloc_new w (.cells Z3 86)
  have hk := (Keep.refl (fun _ => False) w).alloc (.cells Z3 86)
  have HB := hid hb; have HK := hid hk
  clear hb hk
  go_enter Tryz.func67, Tryz.ntmps67
  go_upto_region 1 with fail
  generalize w.alloc (.cells Z3 86) = w0 at *
  generalize hsb : w.heap.size = sb at *
  have c0 := cell_of HB.out (i := 0) (by rfl)
  have c1 := cell_of HB.out (i := 1) (by rfl)
  have c2 := cell_of HB.out (i := 2) (by rfl)
  have f0 := free_of HB.out 0
  have f1 := free_of HB.out 1
  have f2 := free_of HB.out 2
  go_wp2
  (try simp only [Exit.inBlock, Exit.then])
  refine bodyPost_ret (results_c rfl _ rfl (run_loadVar_row _ sb _ 86 _ _ _ (cells3 (.bool false) (.int .u64 0) (.int .u64 (n : Int)) HB.out) Tryz.underlying86 rfl (by kernel_rfl))) rfl ?_
  exact ⟨rfl, ((HK.out.setCell_new (p := ⟨sb, 0, none⟩) (by show _ ≤ sb; omega) _).setCell_new (p := ⟨sb, 1, none⟩) (by show _ ≤ sb; omega) _).setCell_new (p := ⟨sb, 2, none⟩) (by show _ ≤ sb; omega) _⟩

set_option maxRecDepth 20000 in
theorem w_of (n : Nat) (hn : n < 9223372036854775808) (w : World) : Calls Tryz.prog 31 #[.int .i64 (n : Int)] w fun r w' => r = .returned (WV ⟨false, 0, n⟩) ∧ Keep (fun _ => False) w w' := by
  have hb := heap_alloc_new w (.cells Z3 86)
  have hk := (Keep.refl (fun _ => False) w).alloc (.cells Z3 86)
  have HB0 := hid hb; have HK0 := hid hk
  clear hb hk
  go_enter Tryz.func31, Tryz.ntmps31
  go_upto_region 1 with fail
  generalize w.alloc (.cells Z3 86) = w0 at *
  generalize hsb : w.heap.size = sb at *
  have g1 : decide ((n : Int) < 0) = false := decide_eq_false (by omega)
  go_wp2_with fail
  refine (w_ofword n _).mono ?_
  rintro r w1 ⟨rfl, hk1⟩
  have HK := hid (HK0.out.trans hk1)
  have HB := hid (hk1.get HB0.out (fun h => h))
  clear hk1
  have c0 := cell_of HB.out (i := 0) (by rfl)
  have c1 := cell_of HB.out (i := 1) (by rfl)
  have c2 := cell_of HB.out (i := 2) (by rfl)
  have f0 := free_of HB.out 0
  have f1 := free_of HB.out 1
  have f2 := free_of HB.out 2
  go_wp2
  (try simp only [Exit.inBlock, Exit.then])
  refine bodyPost_ret (results_c rfl _ rfl (run_loadVar_row _ sb _ 86 _ _ _ (cells3 (.bool false) (.int .u64 0) (.int .u64 (n : Int)) HB.out) Tryz.underlying86 rfl (by kernel_rfl))) rfl ?_
  exact ⟨rfl, ((HK.out.setCell_new (p := ⟨sb, 0, none⟩) (by show _ ≤ sb; omega) _).setCell_new (p := ⟨sb, 1, none⟩) (by show _ ≤ sb; omega) _).setCell_new (p := ⟨sb, 2, none⟩) (by show _ ≤ sb; omega) _⟩

set_option maxRecDepth 20000 in
theorem w_neg (x : WI) (hx : x.fit) (hf : x.form = true) (w : World) : Calls Tryz.prog 154 #[WV x] w fun r w' => r = .returned (WV (normW (!x.neg) x.hi x.lo)) ∧ Keep (fun _ => False) w w' := by
  have hk0 : Keep (fun _ => False) w ((w.alloc (.cells (WC x) 86)).alloc (.cells Z3 86)) := ((Keep.refl (fun _ => False) w).alloc _).alloc _
  have hb1 : ((w.alloc (.cells (WC x) 86)).alloc (.cells Z3 86)).heap[w.heap.size]? = some (.cells (WC x) 86 (0, 0)) := (((Keep.refl (fun _ => False) _).alloc _).get (heap_alloc_new w _) (fun h => h))
  have hb2 : ((w.alloc (.cells (WC x) 86)).alloc (.cells Z3 86)).heap[w.heap.size + 1]? = some (.cells Z3 86 (0, 0)) := by
    have := heap_alloc_new (w.alloc (.cells (WC x) 86)) (.cells Z3 86)
    simpa using this
  have HK0 := hid hk0; have HB1 := hid hb1; have HB2 := hid hb2
  clear hk0 hb1 hb2
  go_enter Tryz.func154, Tryz.ntmps154
  go_upto_region 1 with fail
  generalize (w.alloc (.cells (WC x) 86)).alloc (.cells Z3 86) = w0 at *
  generalize hsb : w.heap.size = sb at *
  have HX := hid hx; have HF := hid hf
  clear hx hf
  have a0 : w0.cell? ⟨sb, 0, none⟩ = some (.bool x.neg) := cell_of HB1.out (by rfl)
  have a1 : w0.cell? ⟨sb, 1, none⟩ = some (.int .u64 (x.hi : Int)) := cell_of HB1.out (by rfl)
  have a2 : w0.cell? ⟨sb, 2, none⟩ = some (.int .u64 (x.lo : Int)) := cell_of HB1.out (by rfl)
  go_wp2_with fail
  refine (w_form x HX.out _).mono ?_
  rintro r w1 ⟨rfl, hk1⟩
  rw [HF.out]
  have HK1 := hid (HK0.out.trans hk1)
  have HB3 := hid (hk1.get HB1.out (fun h => h)); have HB4 := hid (hk1.get HB2.out (fun h => h))
  clear hk1 a0 a1 a2
  have a0 : w1.cell? ⟨sb, 0, none⟩ = some (.bool x.neg) := cell_of HB3.out (by rfl)
  have a1 : w1.cell? ⟨sb, 1, none⟩ = some (.int .u64 (x.hi : Int)) := cell_of HB3.out (by rfl)
  have a2 : w1.cell? ⟨sb, 2, none⟩ = some (.int .u64 (x.lo : Int)) := cell_of HB3.out (by rfl)
  go_wp2_with fail
  refine (w_made (!x.neg) x.hi x.lo HX.out.1 HX.out.2 _).mono ?_
  rintro r w2 ⟨rfl, hk2⟩
  have HK := hid (HK1.out.trans hk2)
  have HB := hid (hk2.get HB4.out (fun h => h))
  clear hk2 a0 a1 a2
  generalize hy : normW (!x.neg) x.hi x.lo = y at *
  have HY := hid hy
  clear hy
  have c0 := cell_of HB.out (i := 0) (by rfl)
  have c1 := cell_of HB.out (i := 1) (by rfl)
  have c2 := cell_of HB.out (i := 2) (by rfl)
  have f0 := free_of HB.out 0
  have f1 := free_of HB.out 1
  have f2 := free_of HB.out 2
  go_wp2
  (try simp only [Exit.inBlock, Exit.then])
  refine bodyPost_ret (results_c rfl _ rfl (run_loadVar_row _ (sb + 1) _ 86 _ _ _ (cells3 (.bool y.neg) (.int .u64 (y.hi : Int)) (.int .u64 (y.lo : Int)) HB.out) Tryz.underlying86 rfl (by kernel_rfl))) rfl ?_
  exact ⟨by rw [HY.out], ((HK.out.setCell_new (p := ⟨sb + 1, 0, none⟩) (by show _ ≤ (sb + 1); omega) _).setCell_new (p := ⟨sb + 1, 1, none⟩) (by show _ ≤ (sb + 1); omega) _).setCell_new (p := ⟨sb + 1, 2, none⟩) (by show _ ≤ (sb + 1); omega) _⟩

set_option maxRecDepth 20000 in
theorem w_check (x y : WI) (hx : x.fit) (hy : y.fit) (fx : x.form = true) (fy : y.form = true) (w : World) : Calls Tryz.prog 172 #[WV x, WV y, .bool false] w fun r w' => r = .returned (.int .i64 0) ∧ Keep (fun _ => False) w w' := by
  have hk0 : Keep (fun _ => False) w ((w.alloc (.cells (WC x) 86)).alloc (.cells (WC y) 86)) := ((Keep.refl (fun _ => False) w).alloc _).alloc _
  have hb2 : ((w.alloc (.cells (WC x) 86)).alloc (.cells (WC y) 86)).heap[w.heap.size + 1]? = some (.cells (WC y) 86 (0, 0)) := by
    have := heap_alloc_new (w.alloc (.cells (WC x) 86)) (.cells (WC y) 86)
    simpa using this
  have HK0 := hid hk0; have HB2 := hid hb2
  have HX := hid hx; have HY := hid hy; have FX := hid fx; have FY := hid fy
  clear hk0 hb2 hx hy fx fy
  go_enter Tryz.func172, Tryz.ntmps172
  go_wp2_with fail
  refine (w_form x HX.out _).mono ?_
  rintro r w1 ⟨rfl, hk1⟩
  rw [FX.out]
  have HK1 := hid (HK0.out.trans hk1)
  have HB := hid (hk1.get HB2.out (fun h => h))
  clear hk1
  generalize w.heap.size = sb at *
  have a0 : w1.cell? ⟨sb + 1, 0, none⟩ = some (.bool y.neg) := cell_of HB.out (by rfl)
  have a1 : w1.cell? ⟨sb + 1, 1, none⟩ = some (.int .u64 (y.hi : Int)) := cell_of HB.out (by rfl)
  have a2 : w1.cell? ⟨sb + 1, 2, none⟩ = some (.int .u64 (y.lo : Int)) := cell_of HB.out (by rfl)
  go_wp2_with fail
  refine (w_form y HY.out _).mono ?_
  rintro r w2 ⟨rfl, hk2⟩
  rw [FY.out]
  have HK2 := hid (HK1.out.trans hk2)
  clear hk2 a0 a1 a2
  go_wp2
  go_ret
  exact ⟨rfl, HK2.out⟩

set_option maxRecDepth 20000 in
theorem w_fit (ng : Bool) (hi lo : Nat) (h1 : hi < 9223372036854775808) (h2 : lo < 18446744073709551616) (w : World) : Calls Tryz.prog 184 #[.bool ng, .int .u64 (hi : Int), .int .u64 (lo : Int)] w fun r w' => r = .returned (.tuple #[WV (normW ng hi lo), .int .i64 0]) ∧ Keep (fun _ => False) w w' := by
  have hb := heap_alloc_new w (.cells Z3 86)
  have hk := (Keep.refl (fun _ => False) w).alloc (.cells Z3 86)
  have HB0 := hid hb; have HK0 := hid hk
  clear hb hk
  go_enter Tryz.func184, Tryz.ntmps184
  go_upto_region 1 with fail
  generalize w.alloc (.cells Z3 86) = w0 at *
  generalize hsb : w.heap.size = sb at *
  have g1 : decide ((9223372036854775808 : Int) ≤ (hi : Int)) = false := decide_eq_false (by omega)
  go_wp2_with fail
  refine (w_made ng hi lo (by omega) h2 _).mono ?_
  rintro r w1 ⟨rfl, hk1⟩
  have HK := hid (HK0.out.trans hk1)
  have HB := hid (hk1.get HB0.out (fun h => h))
  clear hk1
  generalize hy : normW ng hi lo = y at *
  have HY := hid hy
  clear hy
  have c0 := cell_of HB.out (i := 0) (by rfl)
  have c1 := cell_of HB.out (i := 1) (by rfl)
  have c2 := cell_of HB.out (i := 2) (by rfl)
  have f0 := free_of HB.out 0
  have f1 := free_of HB.out 1
  have f2 := free_of HB.out 2
  go_wp2
  (try simp only [Exit.inBlock, Exit.then])
  refine bodyPost_ret (results_ct rfl _ rfl (run_loadVar_row _ sb _ 86 _ _ _ (cells3 (.bool y.neg) (.int .u64 (y.hi : Int)) (.int .u64 (y.lo : Int)) HB.out) Tryz.underlying86 rfl (by kernel_rfl))) rfl ?_
  exact ⟨by rw [HY.out]; rfl, ((HK.out.setCell_new (p := ⟨sb, 0, none⟩) (by show _ ≤ sb; omega) _).setCell_new (p := ⟨sb, 1, none⟩) (by show _ ≤ sb; omega) _).setCell_new (p := ⟨sb, 2, none⟩) (by show _ ≤ sb; omega) _⟩

end Go.Proofs.YtlhdofkgcbmnnaaGreat

namespace Go.Proofs.YtlhdofkgcbmnnaaGreat
open Go.RowKit Go.Proofs.Heap Go.Proofs.Wide

theorem neg_form (a : Nat) (ha : 0 < a) : WI.form ⟨true, 0, a⟩ = true := by
  unfold WI.form WI.mag
  simp
  omega
theorem normW_neg (a : Nat) (ha : 0 < a) : normW true 0 a = ⟨true, 0, a⟩ := by
  unfold normW
  have : decide (0 * 18446744073709551616 + a ≠ 0) = true := decide_eq_true (by omega)
  rw [this]; rfl

theorem ext_add64 (x y c : Nat) (hc : c ≤ 1) (w : World) :
    (callFunc 183 #[.int .u64 (x : Int), .int .u64 (y : Int), .int .u64 (c : Int)]).run Tryz.prog w =
      .ok (.value (.tuple #[.int .u64 (((x + y + c) % 18446744073709551616 : Nat) : Int), .int .u64 (((x + y + c) / 18446744073709551616 : Nat) : Int)])) w := by
  rw [run_callFunc_extern Tryz.func183 (by kernel_rfl) (by kernel_rfl) (by kernel_rfl) (e := add64Entry) (by kernel_rfl), run_add64 x y c (by omega) (by omega) (by omega) (by omega)]
  simp only [Result.andThen]
  congr 5 <;> omega

set_option maxRecDepth 20000 in
set_option maxHeartbeats 1000000 in
theorem w_add_nn (a b : Nat) (ha : 0 < a) (hb : 0 < b) (hab : a + b < 18446744073709551616) (w : World) :
    Calls Tryz.prog 148 #[WV ⟨true, 0, a⟩, WV ⟨true, 0, b⟩] w fun r w' => r = .returned (.tuple #[WV ⟨true, 0, a + b⟩, .int .i64 0]) ∧ Keep (fun _ => False) w w' := by
  have hk0 : Keep (fun _ => False) w (((w.alloc (.cells (WC ⟨true, 0, a⟩) 86)).alloc (.cells (WC ⟨true, 0, b⟩) 86)).alloc (.cells Z3 86)) := (((Keep.refl (fun _ => False) w).alloc _).alloc _).alloc _
  have hb1 : (((w.alloc (.cells (WC ⟨true, 0, a⟩) 86)).alloc (.cells (WC ⟨true, 0, b⟩) 86)).alloc (.cells Z3 86)).heap[w.heap.size]? = some (.cells (WC ⟨true, 0, a⟩) 86 (0, 0)) := ((((Keep.refl (fun _ => False) _).alloc _).alloc _).get (heap_alloc_new w _) (fun h => h))
  have hb2 : (((w.alloc (.cells (WC ⟨true, 0, a⟩) 86)).alloc (.cells (WC ⟨true, 0, b⟩) 86)).alloc (.cells Z3 86)).heap[w.heap.size + 1]? = some (.cells (WC ⟨true, 0, b⟩) 86 (0, 0)) := by
    have := (((Keep.refl (fun _ => False) ((w.alloc (.cells (WC ⟨true, 0, a⟩) 86)).alloc (.cells (WC ⟨true, 0, b⟩) 86))).alloc (.cells Z3 86)).get (heap_alloc_new (w.alloc (.cells (WC ⟨true, 0, a⟩) 86)) (.cells (WC ⟨true, 0, b⟩) 86)) (fun h => h))
    simpa using this
  have hb3 : (((w.alloc (.cells (WC ⟨true, 0, a⟩) 86)).alloc (.cells (WC ⟨true, 0, b⟩) 86)).alloc (.cells Z3 86)).heap[w.heap.size + 2]? = some (.cells Z3 86 (0, 0)) := by
    have := heap_alloc_new ((w.alloc (.cells (WC ⟨true, 0, a⟩) 86)).alloc (.cells (WC ⟨true, 0, b⟩) 86)) (.cells Z3 86)
    simpa using this
  have HK0 := hid hk0; have HB1 := hid hb1; have HB2 := hid hb2; have HB3 := hid hb3
  clear hk0 hb1 hb2 hb3
  go_enter Tryz.func148, Tryz.ntmps148
  go_upto_region 1 with fail
  generalize ((w.alloc (.cells (WC ⟨true, 0, a⟩) 86)).alloc (.cells (WC ⟨true, 0, b⟩) 86)).alloc (.cells Z3 86) = w0 at *
  generalize hsb : w.heap.size = sb at *
  have a0 : w0.cell? ⟨sb, 0, none⟩ = some (.bool true) := cell_of HB1.out (by rfl)
  have a1 : w0.cell? ⟨sb, 1, none⟩ = some (.int .u64 ((0 : Nat) : Int)) := cell_of HB1.out (by rfl)
  have a2 : w0.cell? ⟨sb, 2, none⟩ = some (.int .u64 (a : Int)) := cell_of HB1.out (by rfl)
  have b0 : w0.cell? ⟨sb + 1, 0, none⟩ = some (.bool true) := cell_of HB2.out (by rfl)
  have b1 : w0.cell? ⟨sb + 1, 1, none⟩ = some (.int .u64 ((0 : Nat) : Int)) := cell_of HB2.out (by rfl)
  have b2 : w0.cell? ⟨sb + 1, 2, none⟩ = some (.int .u64 (b : Int)) := cell_of HB2.out (by rfl)
  go_wp2_with fail
  refine (w_check ⟨true, 0, a⟩ ⟨true, 0, b⟩ ⟨(by decide : (0 : Nat) < 18446744073709551616), (by omega : a < 18446744073709551616)⟩ ⟨(by decide : (0 : Nat) < 18446744073709551616), (by omega : b < 18446744073709551616)⟩ (neg_form a ha) (neg_form b hb) _).mono ?_
  rintro r w1 ⟨rfl, hk1⟩
  have HK1 := hid (HK0.out.trans hk1)
  have HB4 := hid (hk1.get HB1.out (fun h => h)); have HB5 := hid (hk1.get HB2.out (fun h => h)); have HB6 := hid (hk1.get HB3.out (fun h => h))
  clear hk1 a0 a1 a2 b0 b1 b2
  have a0 : w1.cell? ⟨sb, 0, none⟩ = some (.bool true) := cell_of HB4.out (by rfl)
  have a1 : w1.cell? ⟨sb, 1, none⟩ = some (.int .u64 ((0 : Nat) : Int)) := cell_of HB4.out (by rfl)
  have a2 : w1.cell? ⟨sb, 2, none⟩ = some (.int .u64 (a : Int)) := cell_of HB4.out (by rfl)
  have b0 : w1.cell? ⟨sb + 1, 0, none⟩ = some (.bool true) := cell_of HB5.out (by rfl)
  have b1 : w1.cell? ⟨sb + 1, 1, none⟩ = some (.int .u64 ((0 : Nat) : Int)) := cell_of HB5.out (by rfl)
  have b2 : w1.cell? ⟨sb + 1, 2, none⟩ = some (.int .u64 (b : Int)) := cell_of HB5.out (by rfl)
  have q1 : (callFunc 183 #[.int .u64 (a : Int), .int .u64 (b : Int), .int .u64 0]).run Tryz.prog w1 = .ok (.value (.tuple #[.int .u64 ((a + b : Nat) : Int), .int .u64 ((0 : Nat) : Int)])) w1 := by
    have := ext_add64 a b 0 (by omega) w1
    rwa [Nat.add_zero, Nat.mod_eq_of_lt hab, Nat.div_eq_of_lt hab] at this
  have q2 : (callFunc 183 #[.int .u64 0, .int .u64 0, .int .u64 0]).run Tryz.prog w1 = .ok (.value (.tuple #[.int .u64 ((0 : Nat) : Int), .int .u64 ((0 : Nat) : Int)])) w1 := ext_add64 0 0 0 (by omega) w1
  go_wp2_with fail
  refine (w_fit true 0 (a + b) (by omega) hab _).mono ?_
  rintro r w2 ⟨rfl, hk2⟩
  rw [normW_neg (a + b) (by omega)]
  have HK := hid (HK1.out.trans hk2)
  have HB := hid (hk2.get HB6.out (fun h => h))
  clear hk2 a0 a1 a2 b0 b1 b2 q1 q2
  have c0 := cell_of HB.out (i := 0) (by rfl)
  have c1 := cell_of HB.out (i := 1) (by rfl)
  have c2 := cell_of HB.out (i := 2) (by rfl)
  have f0 := free_of HB.out 0
  have f1 := free_of HB.out 1
  have f2 := free_of HB.out 2
  go_wp2
  (try simp only [Exit.inBlock, Exit.then])
  refine bodyPost_ret (results_ct rfl _ rfl (run_loadVar_row _ (sb + 2) _ 86 _ _ _ (cells3 (.bool true) (.int .u64 ((0 : Nat) : Int)) (.int .u64 ((a + b : Nat) : Int)) HB.out) Tryz.underlying86 rfl (by kernel_rfl))) rfl ?_
  exact ⟨rfl, ((HK.out.setCell_new (p := ⟨sb + 2, 0, none⟩) (by show _ ≤ sb + 2; omega) _).setCell_new (p := ⟨sb + 2, 1, none⟩) (by show _ ≤ sb + 2; omega) _).setCell_new (p := ⟨sb + 2, 2, none⟩) (by show _ ≤ sb + 2; omega) _⟩
end Go.Proofs.YtlhdofkgcbmnnaaGreat

namespace Go.Proofs.YtlhdofkgcbmnnaaGreat
open Go.RowKit Go.Proofs.Heap Go.Proofs.Wide

theorem pos_form (a : Nat) : WI.form ⟨false, 0, a⟩ = true := by
  unfold WI.form
  simp
/-- A kind's greatest number. -/
def greatN (k : Int) : Nat := if k = 1 then 1 else if k = 2 then 127 else if k = 3 then 32767 else if k = 4 then 2147483647 else if k = 5 then 9223372036854775807 else if k = 6 then 255 else if k = 7 then 65535 else if k = 8 then 4294967295 else 18446744073709551615

set_option maxRecDepth 20000 in
set_option maxHeartbeats 1000000 in
theorem w_sub_nn (a b : Nat) (ha : 0 < a) (hb : 0 < b) (hab : a + b < 18446744073709551616) (w : World) :
    Calls Tryz.prog 121 #[WV ⟨true, 0, a⟩, WV ⟨false, 0, b⟩] w fun r w' => r = .returned (.tuple #[WV ⟨true, 0, a + b⟩, .int .i64 0]) ∧ Keep (fun _ => False) w w' := by
  have hk0 : Keep (fun _ => False) w (((w.alloc (.cells (WC ⟨true, 0, a⟩) 86)).alloc (.cells (WC ⟨false, 0, b⟩) 86)).alloc (.cells Z3 86)) := (((Keep.refl (fun _ => False) w).alloc _).alloc _).alloc _
  have hb1 : (((w.alloc (.cells (WC ⟨true, 0, a⟩) 86)).alloc (.cells (WC ⟨false, 0, b⟩) 86)).alloc (.cells Z3 86)).heap[w.heap.size]? = some (.cells (WC ⟨true, 0, a⟩) 86 (0, 0)) := ((((Keep.refl (fun _ => False) _).alloc _).alloc _).get (heap_alloc_new w _) (fun h => h))
  have hb2 : (((w.alloc (.cells (WC ⟨true, 0, a⟩) 86)).alloc (.cells (WC ⟨false, 0, b⟩) 86)).alloc (.cells Z3 86)).heap[w.heap.size + 1]? = some (.cells (WC ⟨false, 0, b⟩) 86 (0, 0)) := by
    have := (((Keep.refl (fun _ => False) ((w.alloc (.cells (WC ⟨true, 0, a⟩) 86)).alloc (.cells (WC ⟨false, 0, b⟩) 86))).alloc (.cells Z3 86)).get (heap_alloc_new (w.alloc (.cells (WC ⟨true, 0, a⟩) 86)) (.cells (WC ⟨false, 0, b⟩) 86)) (fun h => h))
    simpa using this
  have hb3 : (((w.alloc (.cells (WC ⟨true, 0, a⟩) 86)).alloc (.cells (WC ⟨false, 0, b⟩) 86)).alloc (.cells Z3 86)).heap[w.heap.size + 2]? = some (.cells Z3 86 (0, 0)) := by
    have := heap_alloc_new ((w.alloc (.cells (WC ⟨true, 0, a⟩) 86)).alloc (.cells (WC ⟨false, 0, b⟩) 86)) (.cells Z3 86)
    simpa using this
  have HK0 := hid hk0; have HB1 := hid hb1; have HB2 := hid hb2; have HB3 := hid hb3
  clear hk0 hb1 hb2 hb3
  go_enter Tryz.func121, Tryz.ntmps121
  go_upto_region 1 with fail
  generalize (((w.alloc (.cells (WC ⟨true, 0, a⟩) 86)).alloc (.cells (WC ⟨false, 0, b⟩) 86)).alloc (.cells Z3 86)) = w0 at *
  generalize hsb : w.heap.size = sb at *
  have a0 : w0.cell? ⟨sb, 0, none⟩ = some (.bool true) := cell_of HB1.out (by rfl)
  have a1 : w0.cell? ⟨sb, 1, none⟩ = some (.int .u64 ((0 : Nat) : Int)) := cell_of HB1.out (by rfl)
  have a2 : w0.cell? ⟨sb, 2, none⟩ = some (.int .u64 (a : Int)) := cell_of HB1.out (by rfl)
  have b0 : w0.cell? ⟨sb + 1, 0, none⟩ = some (.bool false) := cell_of HB2.out (by rfl)
  have b1 : w0.cell? ⟨sb + 1, 1, none⟩ = some (.int .u64 ((0 : Nat) : Int)) := cell_of HB2.out (by rfl)
  have b2 : w0.cell? ⟨sb + 1, 2, none⟩ = some (.int .u64 (b : Int)) := cell_of HB2.out (by rfl)
  have fta : WI.fit ⟨true, 0, a⟩ := ⟨(by decide : (0 : Nat) < 18446744073709551616), (by omega : a < 18446744073709551616)⟩
  have ftb : WI.fit ⟨false, 0, b⟩ := ⟨(by decide : (0 : Nat) < 18446744073709551616), (by omega : b < 18446744073709551616)⟩
  have FTA := hid fta; have FTB := hid ftb
  clear fta ftb
  go_wp2_with fail
  refine (w_check ⟨true, 0, a⟩ ⟨false, 0, b⟩ FTA.out FTB.out (neg_form a ha) (pos_form b) _).mono ?_
  rintro r w1 ⟨rfl, hk1⟩
  have HK1 := hid (HK0.out.trans hk1).drew
  have HB4 := hid (hk1.drew.get HB1.out (fun h => h)); have HB5 := hid (hk1.drew.get HB2.out (fun h => h)); have HB6 := hid (hk1.drew.get HB3.out (fun h => h))
  clear hk1 a0 a1 a2 b0 b1 b2
  have a0 : w1.drew.cell? ⟨sb, 0, none⟩ = some (.bool true) := cell_of HB4.out (by rfl)
  have a1 : w1.drew.cell? ⟨sb, 1, none⟩ = some (.int .u64 ((0 : Nat) : Int)) := cell_of HB4.out (by rfl)
  have a2 : w1.drew.cell? ⟨sb, 2, none⟩ = some (.int .u64 (a : Int)) := cell_of HB4.out (by rfl)
  have b0 : w1.drew.cell? ⟨sb + 1, 0, none⟩ = some (.bool false) := cell_of HB5.out (by rfl)
  have b1 : w1.drew.cell? ⟨sb + 1, 1, none⟩ = some (.int .u64 ((0 : Nat) : Int)) := cell_of HB5.out (by rfl)
  have b2 : w1.drew.cell? ⟨sb + 1, 2, none⟩ = some (.int .u64 (b : Int)) := cell_of HB5.out (by rfl)
  go_wp2_with fail
  refine Plan.wp_region_pl [(false, 0, []), (false, 1, []), (true, 2, [0]), (true, 3, []), (false, 4, []), (false, 5, []), (true, 6, []), (false, 7, [])] (by kernel_rfl) (by kernel_rfl) ?_
  repeat (refine Plan.pl_st rfl ?_; go_big_quiet_step (fail); refine wpQuiet_nil ?_)
  refine Plan.pl_ac rfl ?_
  go_wp2_with fail
  refine (w_neg ⟨false, 0, b⟩ FTB.out (pos_form b) _).mono ?_
  rintro r w2 ⟨rfl, hk2⟩
  rw [show normW (!(false : Bool)) 0 b = ⟨true, 0, b⟩ from normW_neg b hb]
  have HK2 := hid (HK1.out.trans hk2)
  have HB7 := hid (hk2.get HB4.out (fun h => h)); have HB8 := hid (hk2.get HB5.out (fun h => h)); have HB9 := hid (hk2.get HB6.out (fun h => h))
  clear hk2 a0 a1 a2 b0 b1 b2
  have a0 : w2.cell? ⟨sb, 0, none⟩ = some (.bool true) := cell_of HB7.out (by rfl)
  have a1 : w2.cell? ⟨sb, 1, none⟩ = some (.int .u64 ((0 : Nat) : Int)) := cell_of HB7.out (by rfl)
  have a2 : w2.cell? ⟨sb, 2, none⟩ = some (.int .u64 (a : Int)) := cell_of HB7.out (by rfl)
  have b0 : w2.cell? ⟨sb + 1, 0, none⟩ = some (.bool false) := cell_of HB8.out (by rfl)
  have b1 : w2.cell? ⟨sb + 1, 1, none⟩ = some (.int .u64 ((0 : Nat) : Int)) := cell_of HB8.out (by rfl)
  have b2 : w2.cell? ⟨sb + 1, 2, none⟩ = some (.int .u64 (b : Int)) := cell_of HB8.out (by rfl)
  go_wp2
  refine Plan.plQ_mk ?_ ?_
  · repeat (refine Plan.chk_st rfl ?_ ?_; focus (go_big_quiet_step (fail); exact wpQuiet_nil rfl))
    exact Plan.chk_end
  refine Plan.pl_ac rfl ?_
  go_wp2_with fail
  refine (w_add_nn a b ha hb hab _).mono ?_
  rintro r w3 ⟨rfl, hk3⟩
  have HK := hid (HK2.out.trans hk3)
  have HB := hid (hk3.get HB9.out (fun h => h))
  clear hk3 a0 a1 a2 b0 b1 b2
  have c0 := cell_of HB.out (i := 0) (by rfl)
  have c1 := cell_of HB.out (i := 1) (by rfl)
  have c2 := cell_of HB.out (i := 2) (by rfl)
  have f0 := free_of HB.out 0
  have f1 := free_of HB.out 1
  have f2 := free_of HB.out 2
  go_wp2
  refine Plan.plQ_mk ?_ ?_
  · exact Plan.chk_end
  repeat (refine Plan.pl_st rfl ?_; go_big_quiet_step (fail); refine wpQuiet_nil ?_)
  refine Plan.pl_ac rfl ?_
  go_wp2
  refine Plan.plQ_mk ?_ ?_
  · exact Plan.chk_end
  repeat (refine Plan.pl_st rfl ?_; go_big_quiet_step (fail); refine wpQuiet_nil ?_)
  refine Plan.pl_end ?_
  go_wp2
  (try simp only [Exit.inBlock, Exit.then])
  refine bodyPost_ret (results_ct rfl _ rfl (run_loadVar_row _ (sb + 2) _ 86 _ _ _ (cells3 (.bool true) (.int .u64 ((0 : Nat) : Int)) (.int .u64 ((a + b : Nat) : Int)) HB.out) Tryz.underlying86 rfl (by kernel_rfl))) rfl ?_
  exact ⟨rfl, ((HK.out.setCell_new (p := ⟨sb + 2, 0, none⟩) (by show _ ≤ sb + 2; omega) _).setCell_new (p := ⟨sb + 2, 1, none⟩) (by show _ ≤ sb + 2; omega) _).setCell_new (p := ⟨sb + 2, 2, none⟩) (by show _ ≤ sb + 2; omega) _⟩

theorem f_power (n : Nat) (hn : n = 8 ∨ n = 16 ∨ n = 32 ∨ n = 64) (w : World) : Calls Tryz.prog 122 #[.int .i64 (n : Int)] w fun r w' => r = .returned (.int .u64 ((2 ^ n - 1 : Nat) : Int)) ∧ w = w' := by
  rcases hn with rfl | rfl | rfl | rfl
  all_goals
    go_enter Tryz.func122, Tryz.ntmps122
    go_wp2
    go_ret
    exact ⟨by first | rfl | decide, rfl⟩

end Go.Proofs.YtlhdofkgcbmnnaaGreat

namespace Go.Proofs.YtlhdofkgcbmnnaaGreat
open Go.RowKit Go.Proofs.Heap Go.Proofs.Wide

set_option maxRecDepth 20000 in
set_option maxHeartbeats 1000000 in
theorem f_great1 (w : World) : Calls Tryz.prog 111 #[.int .i64 1] w fun r w' => r = .returned (WV ⟨false, 0, 1⟩) ∧ Keep (fun _ => False) w w' := by
  have hb := heap_alloc_new w (.cells Z3 86)
  have hk := (Keep.refl (fun _ => False) w).alloc (.cells Z3 86)
  have HB0 := hid hb; have HK0 := hid hk
  clear hb hk
  go_enter Tryz.func111, Tryz.ntmps111
  go_upto_region 1 with fail
  generalize w.alloc (.cells Z3 86) = w0 at *
  generalize hsb : w.heap.size = sb at *
  go_wp2_with fail
  refine (kind_of 1 _).mono ?_
  rintro r w1 ⟨s, rfl, hk1⟩
  rw [show sizeK 1 = 1 from rfl, show signK 1 = false from rfl]
  have hk2 := hk1.alloc (.cells #[.string s, .int .i64 1, .bool false] 204)
  have HB1 := hid (hk2.get HB0.out (fun h => h)); have HK1 := hid (HK0.out.trans hk2)
  clear hk1 hk2
  go_wp2_with fail
  refine (w_of 1 (by decide) _).mono ?_
  rintro r w2 ⟨rfl, hk2⟩
  have HK := hid (HK1.out.trans hk2)
  have HB := hid (hk2.get HB1.out (fun h => h))
  clear hk2
  have c0 := cell_of HB.out (i := 0) (by rfl)
  have c1 := cell_of HB.out (i := 1) (by rfl)
  have c2 := cell_of HB.out (i := 2) (by rfl)
  have f0 := free_of HB.out 0
  have f1 := free_of HB.out 1
  have f2 := free_of HB.out 2
  go_wp2
  (try simp only [Exit.inBlock, Exit.then])
  refine bodyPost_ret (results_c rfl _ rfl (run_loadVar_row _ sb _ 86 _ _ _ (cells3 (.bool false) (.int .u64 ((0 : Nat) : Int)) (.int .u64 ((1 : Nat) : Int)) HB.out) Tryz.underlying86 rfl (by kernel_rfl))) rfl ?_
  exact ⟨rfl, ((HK.out.setCell_new (p := ⟨sb, 0, none⟩) (by show _ ≤ sb; omega) _).setCell_new (p := ⟨sb, 1, none⟩) (by show _ ≤ sb; omega) _).setCell_new (p := ⟨sb, 2, none⟩) (by show _ ≤ sb; omega) _⟩

set_option maxRecDepth 20000 in
set_option maxHeartbeats 1000000 in
theorem f_great2 (w : World) : Calls Tryz.prog 111 #[.int .i64 2] w fun r w' => r = .returned (WV ⟨false, 0, 127⟩) ∧ Keep (fun _ => False) w w' := by
  have hb := heap_alloc_new w (.cells Z3 86)
  have hk := (Keep.refl (fun _ => False) w).alloc (.cells Z3 86)
  have HB0 := hid hb; have HK0 := hid hk
  clear hb hk
  go_enter Tryz.func111, Tryz.ntmps111
  go_upto_region 1 with fail
  generalize w.alloc (.cells Z3 86) = w0 at *
  generalize hsb : w.heap.size = sb at *
  go_wp2_with fail
  refine (kind_of 2 _).mono ?_
  rintro r w1 ⟨s, rfl, hk1⟩
  rw [show sizeK 2 = 1 from rfl, show signK 2 = true from rfl]
  have hk2 := hk1.alloc (.cells #[.string s, .int .i64 1, .bool true] 204)
  have HB1 := hid (hk2.get HB0.out (fun h => h)); have HK1 := hid (HK0.out.trans hk2)
  clear hk1 hk2
  go_wp2_with fail
  refine (f_power 8 (by decide) _).mono ?_
  rintro r w' ⟨rfl, rfl⟩
  go_wp2_with fail
  refine (w_ofword 127 _).mono ?_
  rintro r w2 ⟨rfl, hk2⟩
  have HK := hid (HK1.out.trans hk2)
  have HB := hid (hk2.get HB1.out (fun h => h))
  clear hk2
  have c0 := cell_of HB.out (i := 0) (by rfl)
  have c1 := cell_of HB.out (i := 1) (by rfl)
  have c2 := cell_of HB.out (i := 2) (by rfl)
  have f0 := free_of HB.out 0
  have f1 := free_of HB.out 1
  have f2 := free_of HB.out 2
  go_wp2
  (try simp only [Exit.inBlock, Exit.then])
  refine bodyPost_ret (results_c rfl _ rfl (run_loadVar_row _ sb _ 86 _ _ _ (cells3 (.bool false) (.int .u64 ((0 : Nat) : Int)) (.int .u64 ((127 : Nat) : Int)) HB.out) Tryz.underlying86 rfl (by kernel_rfl))) rfl ?_
  exact ⟨rfl, ((HK.out.setCell_new (p := ⟨sb, 0, none⟩) (by show _ ≤ sb; omega) _).setCell_new (p := ⟨sb, 1, none⟩) (by show _ ≤ sb; omega) _).setCell_new (p := ⟨sb, 2, none⟩) (by show _ ≤ sb; omega) _⟩

set_option maxRecDepth 20000 in
set_option maxHeartbeats 1000000 in
theorem f_great3 (w : World) : Calls Tryz.prog 111 #[.int .i64 3] w fun r w' => r = .returned (WV ⟨false, 0, 32767⟩) ∧ Keep (fun _ => False) w w' := by
  have hb := heap_alloc_new w (.cells Z3 86)
  have hk := (Keep.refl (fun _ => False) w).alloc (.cells Z3 86)
  have HB0 := hid hb; have HK0 := hid hk
  clear hb hk
  go_enter Tryz.func111, Tryz.ntmps111
  go_upto_region 1 with fail
  generalize w.alloc (.cells Z3 86) = w0 at *
  generalize hsb : w.heap.size = sb at *
  go_wp2_with fail
  refine (kind_of 3 _).mono ?_
  rintro r w1 ⟨s, rfl, hk1⟩
  rw [show sizeK 3 = 2 from rfl, show signK 3 = true from rfl]
  have hk2 := hk1.alloc (.cells #[.string s, .int .i64 2, .bool true] 204)
  have HB1 := hid (hk2.get HB0.out (fun h => h)); have HK1 := hid (HK0.out.trans hk2)
  clear hk1 hk2
  go_wp2_with fail
  refine (f_power 16 (by decide) _).mono ?_
  rintro r w' ⟨rfl, rfl⟩
  go_wp2_with fail
  refine (w_ofword 32767 _).mono ?_
  rintro r w2 ⟨rfl, hk2⟩
  have HK := hid (HK1.out.trans hk2)
  have HB := hid (hk2.get HB1.out (fun h => h))
  clear hk2
  have c0 := cell_of HB.out (i := 0) (by rfl)
  have c1 := cell_of HB.out (i := 1) (by rfl)
  have c2 := cell_of HB.out (i := 2) (by rfl)
  have f0 := free_of HB.out 0
  have f1 := free_of HB.out 1
  have f2 := free_of HB.out 2
  go_wp2
  (try simp only [Exit.inBlock, Exit.then])
  refine bodyPost_ret (results_c rfl _ rfl (run_loadVar_row _ sb _ 86 _ _ _ (cells3 (.bool false) (.int .u64 ((0 : Nat) : Int)) (.int .u64 ((32767 : Nat) : Int)) HB.out) Tryz.underlying86 rfl (by kernel_rfl))) rfl ?_
  exact ⟨rfl, ((HK.out.setCell_new (p := ⟨sb, 0, none⟩) (by show _ ≤ sb; omega) _).setCell_new (p := ⟨sb, 1, none⟩) (by show _ ≤ sb; omega) _).setCell_new (p := ⟨sb, 2, none⟩) (by show _ ≤ sb; omega) _⟩

set_option maxRecDepth 20000 in
set_option maxHeartbeats 1000000 in
theorem f_great4 (w : World) : Calls Tryz.prog 111 #[.int .i64 4] w fun r w' => r = .returned (WV ⟨false, 0, 2147483647⟩) ∧ Keep (fun _ => False) w w' := by
  have hb := heap_alloc_new w (.cells Z3 86)
  have hk := (Keep.refl (fun _ => False) w).alloc (.cells Z3 86)
  have HB0 := hid hb; have HK0 := hid hk
  clear hb hk
  go_enter Tryz.func111, Tryz.ntmps111
  go_upto_region 1 with fail
  generalize w.alloc (.cells Z3 86) = w0 at *
  generalize hsb : w.heap.size = sb at *
  go_wp2_with fail
  refine (kind_of 4 _).mono ?_
  rintro r w1 ⟨s, rfl, hk1⟩
  rw [show sizeK 4 = 4 from rfl, show signK 4 = true from rfl]
  have hk2 := hk1.alloc (.cells #[.string s, .int .i64 4, .bool true] 204)
  have HB1 := hid (hk2.get HB0.out (fun h => h)); have HK1 := hid (HK0.out.trans hk2)
  clear hk1 hk2
  go_wp2_with fail
  refine (f_power 32 (by decide) _).mono ?_
  rintro r w' ⟨rfl, rfl⟩
  go_wp2_with fail
  refine (w_ofword 2147483647 _).mono ?_
  rintro r w2 ⟨rfl, hk2⟩
  have HK := hid (HK1.out.trans hk2)
  have HB := hid (hk2.get HB1.out (fun h => h))
  clear hk2
  have c0 := cell_of HB.out (i := 0) (by rfl)
  have c1 := cell_of HB.out (i := 1) (by rfl)
  have c2 := cell_of HB.out (i := 2) (by rfl)
  have f0 := free_of HB.out 0
  have f1 := free_of HB.out 1
  have f2 := free_of HB.out 2
  go_wp2
  (try simp only [Exit.inBlock, Exit.then])
  refine bodyPost_ret (results_c rfl _ rfl (run_loadVar_row _ sb _ 86 _ _ _ (cells3 (.bool false) (.int .u64 ((0 : Nat) : Int)) (.int .u64 ((2147483647 : Nat) : Int)) HB.out) Tryz.underlying86 rfl (by kernel_rfl))) rfl ?_
  exact ⟨rfl, ((HK.out.setCell_new (p := ⟨sb, 0, none⟩) (by show _ ≤ sb; omega) _).setCell_new (p := ⟨sb, 1, none⟩) (by show _ ≤ sb; omega) _).setCell_new (p := ⟨sb, 2, none⟩) (by show _ ≤ sb; omega) _⟩

set_option maxRecDepth 20000 in
set_option maxHeartbeats 1000000 in
theorem f_great5 (w : World) : Calls Tryz.prog 111 #[.int .i64 5] w fun r w' => r = .returned (WV ⟨false, 0, 9223372036854775807⟩) ∧ Keep (fun _ => False) w w' := by
  have hb := heap_alloc_new w (.cells Z3 86)
  have hk := (Keep.refl (fun _ => False) w).alloc (.cells Z3 86)
  have HB0 := hid hb; have HK0 := hid hk
  clear hb hk
  go_enter Tryz.func111, Tryz.ntmps111
  go_upto_region 1 with fail
  generalize w.alloc (.cells Z3 86) = w0 at *
  generalize hsb : w.heap.size = sb at *
  go_wp2_with fail
  refine (kind_of 5 _).mono ?_
  rintro r w1 ⟨s, rfl, hk1⟩
  rw [show sizeK 5 = 8 from rfl, show signK 5 = true from rfl]
  have hk2 := hk1.alloc (.cells #[.string s, .int .i64 8, .bool true] 204)
  have HB1 := hid (hk2.get HB0.out (fun h => h)); have HK1 := hid (HK0.out.trans hk2)
  clear hk1 hk2
  go_wp2_with fail
  refine (f_power 64 (by decide) _).mono ?_
  rintro r w' ⟨rfl, rfl⟩
  go_wp2_with fail
  refine (w_ofword 9223372036854775807 _).mono ?_
  rintro r w2 ⟨rfl, hk2⟩
  have HK := hid (HK1.out.trans hk2)
  have HB := hid (hk2.get HB1.out (fun h => h))
  clear hk2
  have c0 := cell_of HB.out (i := 0) (by rfl)
  have c1 := cell_of HB.out (i := 1) (by rfl)
  have c2 := cell_of HB.out (i := 2) (by rfl)
  have f0 := free_of HB.out 0
  have f1 := free_of HB.out 1
  have f2 := free_of HB.out 2
  go_wp2
  (try simp only [Exit.inBlock, Exit.then])
  refine bodyPost_ret (results_c rfl _ rfl (run_loadVar_row _ sb _ 86 _ _ _ (cells3 (.bool false) (.int .u64 ((0 : Nat) : Int)) (.int .u64 ((9223372036854775807 : Nat) : Int)) HB.out) Tryz.underlying86 rfl (by kernel_rfl))) rfl ?_
  exact ⟨rfl, ((HK.out.setCell_new (p := ⟨sb, 0, none⟩) (by show _ ≤ sb; omega) _).setCell_new (p := ⟨sb, 1, none⟩) (by show _ ≤ sb; omega) _).setCell_new (p := ⟨sb, 2, none⟩) (by show _ ≤ sb; omega) _⟩

set_option maxRecDepth 20000 in
set_option maxHeartbeats 1000000 in
theorem f_great6 (w : World) : Calls Tryz.prog 111 #[.int .i64 6] w fun r w' => r = .returned (WV ⟨false, 0, 255⟩) ∧ Keep (fun _ => False) w w' := by
  have hb := heap_alloc_new w (.cells Z3 86)
  have hk := (Keep.refl (fun _ => False) w).alloc (.cells Z3 86)
  have HB0 := hid hb; have HK0 := hid hk
  clear hb hk
  go_enter Tryz.func111, Tryz.ntmps111
  go_upto_region 1 with fail
  generalize w.alloc (.cells Z3 86) = w0 at *
  generalize hsb : w.heap.size = sb at *
  go_wp2_with fail
  refine (kind_of 6 _).mono ?_
  rintro r w1 ⟨s, rfl, hk1⟩
  rw [show sizeK 6 = 1 from rfl, show signK 6 = false from rfl]
  have hk2 := hk1.alloc (.cells #[.string s, .int .i64 1, .bool false] 204)
  have HB1 := hid (hk2.get HB0.out (fun h => h)); have HK1 := hid (HK0.out.trans hk2)
  clear hk1 hk2
  go_wp2_with fail
  refine (f_power 8 (by decide) _).mono ?_
  rintro r w' ⟨rfl, rfl⟩
  go_wp2_with fail
  refine (w_ofword 255 _).mono ?_
  rintro r w2 ⟨rfl, hk2⟩
  have HK := hid (HK1.out.trans hk2)
  have HB := hid (hk2.get HB1.out (fun h => h))
  clear hk2
  have c0 := cell_of HB.out (i := 0) (by rfl)
  have c1 := cell_of HB.out (i := 1) (by rfl)
  have c2 := cell_of HB.out (i := 2) (by rfl)
  have f0 := free_of HB.out 0
  have f1 := free_of HB.out 1
  have f2 := free_of HB.out 2
  go_wp2
  (try simp only [Exit.inBlock, Exit.then])
  refine bodyPost_ret (results_c rfl _ rfl (run_loadVar_row _ sb _ 86 _ _ _ (cells3 (.bool false) (.int .u64 ((0 : Nat) : Int)) (.int .u64 ((255 : Nat) : Int)) HB.out) Tryz.underlying86 rfl (by kernel_rfl))) rfl ?_
  exact ⟨rfl, ((HK.out.setCell_new (p := ⟨sb, 0, none⟩) (by show _ ≤ sb; omega) _).setCell_new (p := ⟨sb, 1, none⟩) (by show _ ≤ sb; omega) _).setCell_new (p := ⟨sb, 2, none⟩) (by show _ ≤ sb; omega) _⟩

set_option maxRecDepth 20000 in
set_option maxHeartbeats 1000000 in
theorem f_great7 (w : World) : Calls Tryz.prog 111 #[.int .i64 7] w fun r w' => r = .returned (WV ⟨false, 0, 65535⟩) ∧ Keep (fun _ => False) w w' := by
  have hb := heap_alloc_new w (.cells Z3 86)
  have hk := (Keep.refl (fun _ => False) w).alloc (.cells Z3 86)
  have HB0 := hid hb; have HK0 := hid hk
  clear hb hk
  go_enter Tryz.func111, Tryz.ntmps111
  go_upto_region 1 with fail
  generalize w.alloc (.cells Z3 86) = w0 at *
  generalize hsb : w.heap.size = sb at *
  go_wp2_with fail
  refine (kind_of 7 _).mono ?_
  rintro r w1 ⟨s, rfl, hk1⟩
  rw [show sizeK 7 = 2 from rfl, show signK 7 = false from rfl]
  have hk2 := hk1.alloc (.cells #[.string s, .int .i64 2, .bool false] 204)
  have HB1 := hid (hk2.get HB0.out (fun h => h)); have HK1 := hid (HK0.out.trans hk2)
  clear hk1 hk2
  go_wp2_with fail
  refine (f_power 16 (by decide) _).mono ?_
  rintro r w' ⟨rfl, rfl⟩
  go_wp2_with fail
  refine (w_ofword 65535 _).mono ?_
  rintro r w2 ⟨rfl, hk2⟩
  have HK := hid (HK1.out.trans hk2)
  have HB := hid (hk2.get HB1.out (fun h => h))
  clear hk2
  have c0 := cell_of HB.out (i := 0) (by rfl)
  have c1 := cell_of HB.out (i := 1) (by rfl)
  have c2 := cell_of HB.out (i := 2) (by rfl)
  have f0 := free_of HB.out 0
  have f1 := free_of HB.out 1
  have f2 := free_of HB.out 2
  go_wp2
  (try simp only [Exit.inBlock, Exit.then])
  refine bodyPost_ret (results_c rfl _ rfl (run_loadVar_row _ sb _ 86 _ _ _ (cells3 (.bool false) (.int .u64 ((0 : Nat) : Int)) (.int .u64 ((65535 : Nat) : Int)) HB.out) Tryz.underlying86 rfl (by kernel_rfl))) rfl ?_
  exact ⟨rfl, ((HK.out.setCell_new (p := ⟨sb, 0, none⟩) (by show _ ≤ sb; omega) _).setCell_new (p := ⟨sb, 1, none⟩) (by show _ ≤ sb; omega) _).setCell_new (p := ⟨sb, 2, none⟩) (by show _ ≤ sb; omega) _⟩

set_option maxRecDepth 20000 in
set_option maxHeartbeats 1000000 in
theorem f_great8 (w : World) : Calls Tryz.prog 111 #[.int .i64 8] w fun r w' => r = .returned (WV ⟨false, 0, 4294967295⟩) ∧ Keep (fun _ => False) w w' := by
  have hb := heap_alloc_new w (.cells Z3 86)
  have hk := (Keep.refl (fun _ => False) w).alloc (.cells Z3 86)
  have HB0 := hid hb; have HK0 := hid hk
  clear hb hk
  go_enter Tryz.func111, Tryz.ntmps111
  go_upto_region 1 with fail
  generalize w.alloc (.cells Z3 86) = w0 at *
  generalize hsb : w.heap.size = sb at *
  go_wp2_with fail
  refine (kind_of 8 _).mono ?_
  rintro r w1 ⟨s, rfl, hk1⟩
  rw [show sizeK 8 = 4 from rfl, show signK 8 = false from rfl]
  have hk2 := hk1.alloc (.cells #[.string s, .int .i64 4, .bool false] 204)
  have HB1 := hid (hk2.get HB0.out (fun h => h)); have HK1 := hid (HK0.out.trans hk2)
  clear hk1 hk2
  go_wp2_with fail
  refine (f_power 32 (by decide) _).mono ?_
  rintro r w' ⟨rfl, rfl⟩
  go_wp2_with fail
  refine (w_ofword 4294967295 _).mono ?_
  rintro r w2 ⟨rfl, hk2⟩
  have HK := hid (HK1.out.trans hk2)
  have HB := hid (hk2.get HB1.out (fun h => h))
  clear hk2
  have c0 := cell_of HB.out (i := 0) (by rfl)
  have c1 := cell_of HB.out (i := 1) (by rfl)
  have c2 := cell_of HB.out (i := 2) (by rfl)
  have f0 := free_of HB.out 0
  have f1 := free_of HB.out 1
  have f2 := free_of HB.out 2
  go_wp2
  (try simp only [Exit.inBlock, Exit.then])
  refine bodyPost_ret (results_c rfl _ rfl (run_loadVar_row _ sb _ 86 _ _ _ (cells3 (.bool false) (.int .u64 ((0 : Nat) : Int)) (.int .u64 ((4294967295 : Nat) : Int)) HB.out) Tryz.underlying86 rfl (by kernel_rfl))) rfl ?_
  exact ⟨rfl, ((HK.out.setCell_new (p := ⟨sb, 0, none⟩) (by show _ ≤ sb; omega) _).setCell_new (p := ⟨sb, 1, none⟩) (by show _ ≤ sb; omega) _).setCell_new (p := ⟨sb, 2, none⟩) (by show _ ≤ sb; omega) _⟩

set_option maxRecDepth 20000 in
set_option maxHeartbeats 1000000 in
theorem f_great9 (w : World) : Calls Tryz.prog 111 #[.int .i64 9] w fun r w' => r = .returned (WV ⟨false, 0, 18446744073709551615⟩) ∧ Keep (fun _ => False) w w' := by
  have hb := heap_alloc_new w (.cells Z3 86)
  have hk := (Keep.refl (fun _ => False) w).alloc (.cells Z3 86)
  have HB0 := hid hb; have HK0 := hid hk
  clear hb hk
  go_enter Tryz.func111, Tryz.ntmps111
  go_upto_region 1 with fail
  generalize w.alloc (.cells Z3 86) = w0 at *
  generalize hsb : w.heap.size = sb at *
  go_wp2_with fail
  refine (kind_of 9 _).mono ?_
  rintro r w1 ⟨s, rfl, hk1⟩
  rw [show sizeK 9 = 8 from rfl, show signK 9 = false from rfl]
  have hk2 := hk1.alloc (.cells #[.string s, .int .i64 8, .bool false] 204)
  have HB1 := hid (hk2.get HB0.out (fun h => h)); have HK1 := hid (HK0.out.trans hk2)
  clear hk1 hk2
  go_wp2_with fail
  refine (f_power 64 (by decide) _).mono ?_
  rintro r w' ⟨rfl, rfl⟩
  go_wp2_with fail
  refine (w_ofword 18446744073709551615 _).mono ?_
  rintro r w2 ⟨rfl, hk2⟩
  have HK := hid (HK1.out.trans hk2)
  have HB := hid (hk2.get HB1.out (fun h => h))
  clear hk2
  have c0 := cell_of HB.out (i := 0) (by rfl)
  have c1 := cell_of HB.out (i := 1) (by rfl)
  have c2 := cell_of HB.out (i := 2) (by rfl)
  have f0 := free_of HB.out 0
  have f1 := free_of HB.out 1
  have f2 := free_of HB.out 2
  go_wp2
  (try simp only [Exit.inBlock, Exit.then])
  refine bodyPost_ret (results_c rfl _ rfl (run_loadVar_row _ sb _ 86 _ _ _ (cells3 (.bool false) (.int .u64 ((0 : Nat) : Int)) (.int .u64 ((18446744073709551615 : Nat) : Int)) HB.out) Tryz.underlying86 rfl (by kernel_rfl))) rfl ?_
  exact ⟨rfl, ((HK.out.setCell_new (p := ⟨sb, 0, none⟩) (by show _ ≤ sb; omega) _).setCell_new (p := ⟨sb, 1, none⟩) (by show _ ≤ sb; omega) _).setCell_new (p := ⟨sb, 2, none⟩) (by show _ ≤ sb; omega) _⟩

set_option maxRecDepth 20000 in
set_option maxHeartbeats 1000000 in
theorem f_great10 (w : World) : Calls Tryz.prog 111 #[.int .i64 10] w fun r w' => r = .returned (WV ⟨false, 0, 18446744073709551615⟩) ∧ Keep (fun _ => False) w w' := by
  have hb := heap_alloc_new w (.cells Z3 86)
  have hk := (Keep.refl (fun _ => False) w).alloc (.cells Z3 86)
  have HB0 := hid hb; have HK0 := hid hk
  clear hb hk
  go_enter Tryz.func111, Tryz.ntmps111
  go_upto_region 1 with fail
  generalize w.alloc (.cells Z3 86) = w0 at *
  generalize hsb : w.heap.size = sb at *
  go_wp2_with fail
  refine (kind_of 10 _).mono ?_
  rintro r w1 ⟨s, rfl, hk1⟩
  rw [show sizeK 10 = 8 from rfl, show signK 10 = false from rfl]
  have hk2 := hk1.alloc (.cells #[.string s, .int .i64 8, .bool false] 204)
  have HB1 := hid (hk2.get HB0.out (fun h => h)); have HK1 := hid (HK0.out.trans hk2)
  clear hk1 hk2
  go_wp2_with fail
  refine (f_power 64 (by decide) _).mono ?_
  rintro r w' ⟨rfl, rfl⟩
  go_wp2_with fail
  refine (w_ofword 18446744073709551615 _).mono ?_
  rintro r w2 ⟨rfl, hk2⟩
  have HK := hid (HK1.out.trans hk2)
  have HB := hid (hk2.get HB1.out (fun h => h))
  clear hk2
  have c0 := cell_of HB.out (i := 0) (by rfl)
  have c1 := cell_of HB.out (i := 1) (by rfl)
  have c2 := cell_of HB.out (i := 2) (by rfl)
  have f0 := free_of HB.out 0
  have f1 := free_of HB.out 1
  have f2 := free_of HB.out 2
  go_wp2
  (try simp only [Exit.inBlock, Exit.then])
  refine bodyPost_ret (results_c rfl _ rfl (run_loadVar_row _ sb _ 86 _ _ _ (cells3 (.bool false) (.int .u64 ((0 : Nat) : Int)) (.int .u64 ((18446744073709551615 : Nat) : Int)) HB.out) Tryz.underlying86 rfl (by kernel_rfl))) rfl ?_
  exact ⟨rfl, ((HK.out.setCell_new (p := ⟨sb, 0, none⟩) (by show _ ≤ sb; omega) _).setCell_new (p := ⟨sb, 1, none⟩) (by show _ ≤ sb; omega) _).setCell_new (p := ⟨sb, 2, none⟩) (by show _ ≤ sb; omega) _⟩

theorem f_great (k : Int) (h1 : 1 ≤ k) (h2 : k ≤ 10) (w : World) : Calls Tryz.prog 111 #[.int .i64 k] w fun r w' => r = .returned (WV ⟨false, 0, greatN k⟩) ∧ Keep (fun _ => False) w w' := by
  have hk : k = 1 ∨ k = 2 ∨ k = 3 ∨ k = 4 ∨ k = 5 ∨ k = 6 ∨ k = 7 ∨ k = 8 ∨ k = 9 ∨ k = 10 := by omega
  rcases hk with rfl | rfl | rfl | rfl | rfl | rfl | rfl | rfl | rfl | rfl
  · exact f_great1 w
  · exact f_great2 w
  · exact f_great3 w
  · exact f_great4 w
  · exact f_great5 w
  · exact f_great6 w
  · exact f_great7 w
  · exact f_great8 w
  · exact f_great9 w
  · exact f_great10 w

end Go.Proofs.YtlhdofkgcbmnnaaGreat

namespace Go.Proofs.YtlhdofkgcbmnnaaGreat
open Go.RowKit Go.Proofs.Heap Go.Proofs.Wide

def leastW (k : Int) : WI := if signK k = true then ⟨true, 0, greatN k + 1⟩ else ⟨false, 0, 0⟩
def greatW (k : Int) : WI := ⟨false, 0, greatN k⟩
theorem greatN_lt (k : Int) : greatN k < 18446744073709551616 := by
  unfold greatN
  repeat' split
  all_goals decide
theorem greatN_sign {k : Int} (h : signK k = true) : 0 < greatN k ∧ greatN k + 1 < 18446744073709551616 := by
  have := of_decide_eq_true h
  have hk : k = 2 ∨ k = 3 ∨ k = 4 ∨ k = 5 := by omega
  rcases hk with rfl | rfl | rfl | rfl <;> decide
theorem greatW_fit (k : Int) : (greatW k).fit := ⟨(by decide : (0 : Nat) < 18446744073709551616), greatN_lt k⟩
theorem leastW_fit (k : Int) : (leastW k).fit := by
  unfold leastW
  cases h : signK k
  · rw [if_neg (by simp)]; exact ⟨(by decide : (0 : Nat) < 18446744073709551616), (by decide : (0 : Nat) < 18446744073709551616)⟩
  · rw [if_pos rfl]; exact ⟨(by decide : (0 : Nat) < 18446744073709551616), (greatN_sign h).2⟩
theorem greatW_form (k : Int) : (greatW k).form = true := pos_form _
theorem leastW_form (k : Int) : (leastW k).form = true := by
  unfold leastW
  cases h : signK k
  · rw [if_neg (by simp)]; exact pos_form 0
  · rw [if_pos rfl]; exact neg_form _ (by omega)

theorem field_sign (s : ByteArray) (z : Int) (g : Bool) (w : World) : (Instr.field 204 (.agg #[.string s, .int .i64 z, .bool g]) 2).run Tryz.prog w = .ok (.bool g) w := by kernel_rfl

set_option maxRecDepth 20000 in
set_option maxHeartbeats 1000000 in
theorem f_least (k : Int) (h1 : 1 ≤ k) (h2 : k ≤ 10) (w : World) : Calls Tryz.prog 110 #[.int .i64 k] w fun r w' => r = .returned (WV (leastW k)) ∧ Keep (fun _ => False) w w' := by
  have hb := heap_alloc_new w (.cells Z3 86)
  have hk := (Keep.refl (fun _ => False) w).alloc (.cells Z3 86)
  have HB0 := hid hb; have HK0 := hid hk
  have HS0 := hid (lt_of_heap hb)
  clear hb hk
  go_enter Tryz.func110, Tryz.ntmps110
  go_upto_region 1 with fail
  generalize w.alloc (.cells Z3 86) = w0 at *
  generalize hsb : w.heap.size = sb at *
  go_wp2_with fail
  refine (kind_of k _).mono ?_
  rintro r w1 ⟨s, rfl, hk1⟩
  have hfd := field_sign s (sizeK k) (signK k) w1
  have HB1 := hid (hk1.get HB0.out (fun h => h)); have HK1 := hid (HK0.out.trans hk1)
  have HS1 := hid (Nat.lt_of_lt_of_le HS0.out hk1.size)
  clear hk1
  cases hs : signK k
  · rw [hs] at hfd
    have G : Hid (leastW k = ⟨false, 0, 0⟩) := hid (by unfold leastW; rw [hs]; rfl)
    have HB := hid HB1.out; have HK := hid HK1.out
    clear hs
    have c0 := cell_of HB.out (i := 0) (by rfl)
    have c1 := cell_of HB.out (i := 1) (by rfl)
    have c2 := cell_of HB.out (i := 2) (by rfl)
    have f0 := free_of HB.out 0
    have f1 := free_of HB.out 1
    have f2 := free_of HB.out 2
    go_wp2
    (try simp only [Exit.inBlock, Exit.then])
    refine bodyPost_ret (results_c rfl _ rfl (run_loadVar_row _ sb _ 86 _ _ _ (cells3 (.bool false) (.int .u64 0) (.int .u64 0) HB.out) Tryz.underlying86 rfl (by kernel_rfl))) rfl ?_
    exact ⟨by rw [G.out]; rfl, ((HK.out.setCell_new (p := ⟨sb, 0, none⟩) (by show _ ≤ sb; omega) _).setCell_new (p := ⟨sb, 1, none⟩) (by show _ ≤ sb; omega) _).setCell_new (p := ⟨sb, 2, none⟩) (by show _ ≤ sb; omega) _⟩
  · rw [hs] at hfd
    have hg := greatN_sign hs
    have G : Hid (leastW k = ⟨true, 0, greatN k + 1⟩) := hid (by unfold leastW; rw [hs]; rfl)
    have HGR := hid (fun w => f_great k h1 h2 w)
    clear hs
    generalize greatN k = n at *
    obtain ⟨hg1, hg2⟩ := hg
    go_wp2_with fail
    refine (HGR.out _).mono ?_
    rintro r w2 ⟨rfl, hk2⟩
    have HK2 := hid (HK1.out.trans hk2); have HB2 := hid (hk2.get HB1.out (fun h => h))
    have HS2 := hid (Nat.lt_of_lt_of_le HS1.out hk2.size)
    clear hk2 hfd
    go_wp2_with fail
    refine (w_neg ⟨false, 0, n⟩ ⟨(by decide : (0 : Nat) < 18446744073709551616), (by omega : n < 18446744073709551616)⟩ (pos_form n) _).mono ?_
    rintro r w3 ⟨rfl, hk3⟩
    rw [show normW (!(false : Bool)) 0 n = ⟨true, 0, n⟩ from normW_neg n hg1]
    have HK3 := hid (HK2.out.trans hk3); have HB3 := hid (hk3.get HB2.out (fun h => h))
    have HS3 := hid (Nat.lt_of_lt_of_le HS2.out hk3.size)
    clear hk3
    go_wp2_with fail
    refine (w_of 1 (by decide) _).mono ?_
    rintro r w4 ⟨rfl, hk4⟩
    have HK4 := hid (HK3.out.trans hk4); have HB4 := hid (hk4.get HB3.out (fun h => h))
    have HS4 := hid (Nat.lt_of_lt_of_le HS3.out hk4.size)
    clear hk4
    go_wp2_with fail
    refine (w_sub_nn n 1 hg1 (by decide) hg2 _).mono ?_
    rintro r w5 ⟨rfl, hk5⟩
    obtain ⟨m, hm⟩ : ∃ m, n + 1 = m := ⟨_, rfl⟩
    rw [hm] at G ⊢
    clear hm hg1 hg2
    have hk6 := hk5.alloc (.cells (WC ⟨true, 0, m⟩) 86)
    have HK := hid (HK4.out.trans hk6); have HB := hid (hk6.get HB4.out (fun h => h))
    have HT := hid (heap_alloc_new w5 (.cells (WC ⟨true, 0, m⟩) 86))
    have HS5 := hid (Nat.lt_of_lt_of_le HS4.out hk5.size)
    clear hk5 hk6
    go_upto_region 4 with fail
    generalize w5.alloc (.cells (WC ⟨true, 0, m⟩) 86) = w6 at *
    have hq := HS5.out
    generalize w5.heap.size = q at *
    have e0 : w6.cell? ⟨q, 0, none⟩ = some (.bool true) := cell_of HT.out (by rfl)
    have e1 : w6.cell? ⟨q, 1, none⟩ = some (.int .u64 ((0 : Nat) : Int)) := cell_of HT.out (by rfl)
    have e2 : w6.cell? ⟨q, 2, none⟩ = some (.int .u64 ((m : Nat) : Int)) := cell_of HT.out (by rfl)
    have c0 := cell_of HB.out (i := 0) (by rfl)
    have c1 := cell_of HB.out (i := 1) (by rfl)
    have c2 := cell_of HB.out (i := 2) (by rfl)
    have f0 := free_of HB.out 0
    have f1 := free_of HB.out 1
    have f2 := free_of HB.out 2
    go_wp2
    (try simp only [Exit.inBlock, Exit.then])
    refine bodyPost_ret (results_c rfl _ rfl (run_loadVar_row _ sb _ 86 _ _ _ (cells3 (.bool true) (.int .u64 ((0 : Nat) : Int)) (.int .u64 ((m : Nat) : Int)) HB.out) Tryz.underlying86 rfl (by kernel_rfl))) rfl ?_
    exact ⟨by rw [G.out], ((HK.out.setCell_new (p := ⟨sb, 0, none⟩) (by show _ ≤ sb; omega) _).setCell_new (p := ⟨sb, 1, none⟩) (by show _ ≤ sb; omega) _).setCell_new (p := ⟨sb, 2, none⟩) (by show _ ≤ sb; omega) _⟩

/-- Whether a number fits a kind. -/
def fitsB (k : Int) (x : WI) : Bool := kindB k && (x.form && (decide (0 ≤ cmpW x (leastW k)) && decide (cmpW x (greatW k) ≤ 0)))

set_option maxRecDepth 20000 in
set_option maxHeartbeats 2000000 in
theorem f_fits (k : Int) (x : WI) (hx : x.fit) (w : World) : Calls Tryz.prog 72 #[.int .i64 k, WV x] w fun r w' => r = .returned (.bool (fitsB k x)) ∧ Keep (fun _ => False) w w' := by
  have hb := heap_alloc_new w (.cells (WC x) 86)
  have hk := (Keep.refl (fun _ => False) w).alloc (.cells (WC x) 86)
  have HB := hid hb; have HK := hid hk.drew; have HX := hid hx
  clear hb hk hx
  go_enter Tryz.func72, Tryz.ntmps72
  go_upto_region 1 with fail
  generalize w.alloc (.cells (WC x) 86) = w0 at *
  generalize hsb : w.heap.size = sb at *
  have HF : Hid (∀ wy, Keep (fun _ => False) w0.drew wy → (wy.cell? ⟨sb, 0, none⟩ = some (.bool x.neg) ∧ wy.cell? ⟨sb, 1, none⟩ = some (.int .u64 (x.hi : Int)) ∧ wy.cell? ⟨sb, 2, none⟩ = some (.int .u64 (x.lo : Int)))) := hid (fun wy hk =>
    ⟨cell_of (hk.get HB.out (fun h => h)) (by rfl), cell_of (hk.get HB.out (fun h => h)) (by rfl), cell_of (hk.get HB.out (fun h => h)) (by rfl)⟩)
  obtain ⟨a0, a1, a2⟩ := HF.out _ (Keep.refl _ _)
  refine Plan.wp_region_pl [(false, 0, []), (true, 1, []), (false, 2, []), (false, 3, []), (true, 4, []), (false, 5, []), (false, 6, []), (false, 7, []), (false, 8, []), (true, 9, [7]), (true, 10, []), (false, 11, []), (false, 12, []), (false, 13, []), (false, 14, []), (false, 15, []), (true, 16, [14]), (true, 17, []), (false, 18, []), (false, 19, []), (false, 20, [])] (by as_aux_lemma => kernel_rfl) (by as_aux_lemma => kernel_rfl) ?_
  repeat (refine Plan.pl_st rfl ?_; go_big_quiet_step (fail); refine wpQuiet_nil ?_)
  refine Plan.pl_ac rfl ?_
  go_wp2_with fail
  refine (is_kind k _).mono ?_
  rintro r w' ⟨rfl, rfl⟩
  cases hkd : kindB k
  · have G : Hid (fitsB k x = false) := hid (by unfold fitsB; rw [hkd]; rfl)
    clear hkd
    go_wp2
    refine Plan.plQ_mk ?_ ?_
    · exact Plan.chk_end
    repeat (refine Plan.pl_st rfl ?_; go_big_quiet_step (fail); refine wpQuiet_nil ?_)
    refine Plan.pl_ac rfl ?_
    go_wp2
    refine Plan.plQ_mk ?_ ?_
    · exact Plan.chk_end
    repeat (refine Plan.pl_st rfl ?_; go_big_quiet_step (fail); refine wpQuiet_nil ?_)
    refine Plan.pl_ac rfl ?_
    go_wp2
    refine Plan.plQ_mk ?_ ?_
    · repeat (refine Plan.chk_st rfl ?_ ?_; focus (go_big_quiet_step (fail); exact wpQuiet_nil rfl))
      exact Plan.chk_end
    repeat (refine Plan.pl_st rfl ?_; go_big_quiet_step (fail); refine wpQuiet_nil ?_)
    refine Plan.pl_ac rfl ?_
    go_wp2
    refine Plan.plQ_mk ?_ ?_
    · exact Plan.chk_end
    repeat (refine Plan.pl_st rfl ?_; go_big_quiet_step (fail); refine wpQuiet_nil ?_)
    refine Plan.pl_ac rfl ?_
    go_wp2
    refine Plan.plQ_mk ?_ ?_
    · repeat (refine Plan.chk_st rfl ?_ ?_; focus (go_big_quiet_step (fail); exact wpQuiet_nil rfl))
      exact Plan.chk_end
    repeat (refine Plan.pl_st rfl ?_; go_big_quiet_step (fail); refine wpQuiet_nil ?_)
    refine Plan.pl_ac rfl ?_
    go_wp2
    refine Plan.plQ_mk ?_ ?_
    · exact Plan.chk_end
    repeat (refine Plan.pl_st rfl ?_; go_big_quiet_step (fail); refine wpQuiet_nil ?_)
    refine Plan.pl_end ?_
    go_wp2
    go_ret
    exact ⟨by rw [G.out]; rfl, HK.out⟩
  go_wp2
  refine Plan.plQ_mk ?_ ?_
  · exact Plan.chk_end
  repeat (refine Plan.pl_st rfl ?_; go_big_quiet_step (fail); refine wpQuiet_nil ?_)
  refine Plan.pl_ac rfl ?_
  go_wp2_with fail
  refine (w_form x HX.out _).mono ?_
  rintro r w1 ⟨rfl, hk1⟩
  have HK1 := hid hk1
  clear hk1 a0 a1 a2
  obtain ⟨a0, a1, a2⟩ := HF.out _ HK1.out
  have hkr : 1 ≤ k ∧ k ≤ 10 := of_decide_eq_true hkd
  cases hfm : x.form
  · have G : Hid (fitsB k x = false) := hid (by unfold fitsB; rw [hfm]; simp)
    clear hkd hfm
    go_wp2
    refine Plan.plQ_mk ?_ ?_
    · exact Plan.chk_end
    repeat (refine Plan.pl_st rfl ?_; go_big_quiet_step (fail); refine wpQuiet_nil ?_)
    refine Plan.pl_ac rfl ?_
    go_wp2
    refine Plan.plQ_mk ?_ ?_
    · repeat (refine Plan.chk_st rfl ?_ ?_; focus (go_big_quiet_step (fail); exact wpQuiet_nil rfl))
      exact Plan.chk_end
    repeat (refine Plan.pl_st rfl ?_; go_big_quiet_step (fail); refine wpQuiet_nil ?_)
    refine Plan.pl_ac rfl ?_
    go_wp2
    refine Plan.plQ_mk ?_ ?_
    · exact Plan.chk_end
    repeat (refine Plan.pl_st rfl ?_; go_big_quiet_step (fail); refine wpQuiet_nil ?_)
    refine Plan.pl_ac rfl ?_
    go_wp2
    refine Plan.plQ_mk ?_ ?_
    · repeat (refine Plan.chk_st rfl ?_ ?_; focus (go_big_quiet_step (fail); exact wpQuiet_nil rfl))
      exact Plan.chk_end
    repeat (refine Plan.pl_st rfl ?_; go_big_quiet_step (fail); refine wpQuiet_nil ?_)
    refine Plan.pl_ac rfl ?_
    go_wp2
    refine Plan.plQ_mk ?_ ?_
    · exact Plan.chk_end
    repeat (refine Plan.pl_st rfl ?_; go_big_quiet_step (fail); refine wpQuiet_nil ?_)
    refine Plan.pl_end ?_
    go_wp2
    go_ret
    exact ⟨by rw [G.out]; rfl, HK.out.trans HK1.out⟩
  go_wp2
  refine Plan.plQ_mk ?_ ?_
  · exact Plan.chk_end
  repeat (refine Plan.pl_st rfl ?_; go_big_quiet_step (fail); refine wpQuiet_nil ?_)
  refine Plan.pl_ac rfl ?_
  go_wp2_with fail
  refine (f_least k hkr.1 hkr.2 _).mono ?_
  rintro r w2 ⟨rfl, hk2⟩
  have HK2 := hid (HK1.out.trans hk2)
  clear hk2 a0 a1 a2
  obtain ⟨a0, a1, a2⟩ := HF.out _ HK2.out
  go_wp2
  refine Plan.plQ_mk ?_ ?_
  · repeat (refine Plan.chk_st rfl ?_ ?_; focus (go_big_quiet_step (fail); exact wpQuiet_nil rfl))
    exact Plan.chk_end
  refine Plan.pl_ac rfl ?_
  go_wp2_with fail
  refine (w_cmp x (leastW k) HX.out (leastW_fit k) _).mono ?_
  rintro r w3 ⟨rfl, hk3⟩
  have HK3 := hid (HK2.out.trans hk3)
  clear hk3 a0 a1 a2
  obtain ⟨a0, a1, a2⟩ := HF.out _ HK3.out
  by_cases hc1 : 0 ≤ cmpW x (leastW k)
  rotate_left
  · have G : Hid (fitsB k x = false) := hid (by unfold fitsB; rw [decide_eq_false hc1]; simp)
    have g1 : decide (0 ≤ cmpW x (leastW k)) = false := decide_eq_false hc1
    generalize cmpW x (leastW k) = z at *
    clear hkd hfm
    go_wp2
    refine Plan.plQ_mk ?_ ?_
    · exact Plan.chk_end
    repeat (refine Plan.pl_st rfl ?_; go_big_quiet_step (fail); refine wpQuiet_nil ?_)
    refine Plan.pl_ac rfl ?_
    go_wp2
    refine Plan.plQ_mk ?_ ?_
    · repeat (refine Plan.chk_st rfl ?_ ?_; focus (go_big_quiet_step (fail); exact wpQuiet_nil rfl))
      exact Plan.chk_end
    repeat (refine Plan.pl_st rfl ?_; go_big_quiet_step (fail); refine wpQuiet_nil ?_)
    refine Plan.pl_ac rfl ?_
    go_wp2
    refine Plan.plQ_mk ?_ ?_
    · exact Plan.chk_end
    repeat (refine Plan.pl_st rfl ?_; go_big_quiet_step (fail); refine wpQuiet_nil ?_)
    refine Plan.pl_end ?_
    go_wp2
    go_ret
    exact ⟨by rw [G.out]; rfl, HK.out.trans HK3.out⟩
  have g1 : decide (0 ≤ cmpW x (leastW k)) = true := decide_eq_true hc1
  have HG : Hid (fitsB k x = decide (cmpW x (greatW k) ≤ 0)) := hid (by unfold fitsB; rw [hkd, hfm, g1]; simp)
  generalize cmpW x (leastW k) = z at *
  clear hkd hfm
  go_wp2
  refine Plan.plQ_mk ?_ ?_
  · exact Plan.chk_end
  repeat (refine Plan.pl_st rfl ?_; go_big_quiet_step (fail); refine wpQuiet_nil ?_)
  refine Plan.pl_ac rfl ?_
  go_wp2_with fail
  refine (f_great k hkr.1 hkr.2 _).mono ?_
  rintro r w4 ⟨rfl, hk4⟩
  have HK4 := hid (HK3.out.trans hk4)
  clear hk4 a0 a1 a2
  obtain ⟨a0, a1, a2⟩ := HF.out _ HK4.out
  go_wp2
  refine Plan.plQ_mk ?_ ?_
  · repeat (refine Plan.chk_st rfl ?_ ?_; focus (go_big_quiet_step (fail); exact wpQuiet_nil rfl))
    exact Plan.chk_end
  refine Plan.pl_ac rfl ?_
  go_wp2_with fail
  refine (w_cmp x (greatW k) HX.out (greatW_fit k) _).mono ?_
  rintro r w5 ⟨rfl, hk5⟩
  have HK5 := hid (HK4.out.trans hk5)
  clear hk5 a0 a1 a2
  generalize hz2 : cmpW x (greatW k) = z2 at *
  have HZ := hid hz2
  clear hz2
  go_wp2
  refine Plan.plQ_mk ?_ ?_
  · exact Plan.chk_end
  repeat (refine Plan.pl_st rfl ?_; go_big_quiet_step (fail); refine wpQuiet_nil ?_)
  refine Plan.pl_end ?_
  go_wp2
  go_ret
  exact ⟨by rw [HG.out]; rfl, HK.out.trans HK5.out⟩
end Go.Proofs.YtlhdofkgcbmnnaaGreat
