/- What is proved: what made, OfWord, Of, Neg, check, fit of the great numbers answer, and Add and Sub where both are less than nought. -/
import Derived.Test.YtlhdofkgcbmnnaaGreatDoorMHeap
import Derived.Test.YtlhdofkgcbmnnaaGreatDoorMRegion
import Derived.Laws.Externs
import Derived.Maps.Own
import Derived.Maps.OwnOps
import Derived.Maps.OwnSet
import Derived.Maps.Views
import Derived.Deep.Cut
import Derived.Deep.CutRange
import Derived.Deep.CutBlock
namespace Go.Proofs.YtlhdofkgcbmnnaaGreatDoor
open Go.RowKit Go.Proofs.Heap Go.Proofs.Wide

abbrev Z3 : Array Value := #[.bool false, .int .u64 0, .int .u64 0]
def normW (ng : Bool) (hi lo : Nat) : WI := ⟨ng && decide (hi * 18446744073709551616 + lo ≠ 0), hi, lo⟩

set_option maxRecDepth 20000 in
theorem w_made (ng : Bool) (hi lo : Nat) (h1 : hi < 18446744073709551616) (h2 : lo < 18446744073709551616) (w : World) : Calls Tryz.prog 46 #[.bool ng, .int .u64 (hi : Int), .int .u64 (lo : Int)] w fun r w' => r = .returned (WV (normW ng hi lo)) ∧ Keep (fun _ => False) w w' := by
  obtain ⟨z, hz, hz0⟩ := or_zero hi lo h1 h2
  have hb := heap_alloc_new w (.cells Z3 64)
  have hk := (Keep.refl (fun _ => False) w).alloc (.cells Z3 64)
  have HB := hid hb; have HK := hid hk
  have HN : Hid (∀ b : Bool, decide (hi * 18446744073709551616 + lo ≠ 0) = b ↔ decide (z ≠ 0) = b) := hid (fun b => by
    have : (hi * 18446744073709551616 + lo ≠ 0) ↔ z ≠ 0 := by rw [Ne, Ne, hz0]; omega
    simp only [this])
  clear hz0 hb hk
  go_enter Tryz.func46, Tryz.ntmps46
  go_upto_region 1 with fail
  generalize w.alloc (.cells Z3 64) = w0 at *
  generalize hsb : w.heap.size = sb at *
  have c0 := cell_of HB.out (i := 0) (by rfl)
  have c1 := cell_of HB.out (i := 1) (by rfl)
  have c2 := cell_of HB.out (i := 2) (by rfl)
  have f0 := free_of HB.out 0
  have f1 := free_of HB.out 1
  have f2 := free_of HB.out 2
  cases ng
  · go_wp2
    (try simp only [Exit.inBlock, Exit.then])
    refine bodyPost_ret (results_c rfl _ rfl (run_loadVar_row _ sb _ 64 _ _ _ (cells3 (.bool false) (.int .u64 (hi : Int)) (.int .u64 (lo : Int)) HB.out) Tryz.underlying64 rfl (by kernel_rfl))) rfl ?_
    exact ⟨by simp [normW], ((HK.out.setCell_new (p := ⟨sb, 0, none⟩) (by show _ ≤ sb; omega) _).setCell_new (p := ⟨sb, 1, none⟩) (by show _ ≤ sb; omega) _).setCell_new (p := ⟨sb, 2, none⟩) (by show _ ≤ sb; omega) _⟩
  · by_cases hz1 : z = 0
    · have g2 : ((z : Int) == 0) = true := beq_iff_eq.2 (by omega)
      have g3 : ((z : Int) != 0) = false := by rw [bne, g2]; rfl
      have G := hid ((HN.out false).2 (by simp [hz1]))
      clear hz1
      go_wp2
      (try simp only [Exit.inBlock, Exit.then])
      refine bodyPost_ret (results_c rfl _ rfl (run_loadVar_row _ sb _ 64 _ _ _ (cells3 (.bool false) (.int .u64 (hi : Int)) (.int .u64 (lo : Int)) HB.out) Tryz.underlying64 rfl (by kernel_rfl))) rfl ?_
      exact ⟨by rw [normW, G.out]; rfl, ((HK.out.setCell_new (p := ⟨sb, 0, none⟩) (by show _ ≤ sb; omega) _).setCell_new (p := ⟨sb, 1, none⟩) (by show _ ≤ sb; omega) _).setCell_new (p := ⟨sb, 2, none⟩) (by show _ ≤ sb; omega) _⟩
    · have g2 : ((z : Int) == 0) = false := beq_eq_false_iff_ne.2 (by omega)
      have g3 : ((z : Int) != 0) = true := by rw [bne, g2]; rfl
      have G := hid ((HN.out true).2 (by simp [hz1]))
      go_wp2
      (try simp only [Exit.inBlock, Exit.then])
      refine bodyPost_ret (results_c rfl _ rfl (run_loadVar_row _ sb _ 64 _ _ _ (cells3 (.bool true) (.int .u64 (hi : Int)) (.int .u64 (lo : Int)) HB.out) Tryz.underlying64 rfl (by kernel_rfl))) rfl ?_
      exact ⟨by rw [normW, G.out]; rfl, ((HK.out.setCell_new (p := ⟨sb, 0, none⟩) (by show _ ≤ sb; omega) _).setCell_new (p := ⟨sb, 1, none⟩) (by show _ ≤ sb; omega) _).setCell_new (p := ⟨sb, 2, none⟩) (by show _ ≤ sb; omega) _⟩

set_option maxRecDepth 20000 in
theorem w_ofword (n : Nat) (w : World) : Calls Tryz.prog 47 #[.int .u64 (n : Int)] w fun r w' => r = .returned (WV ⟨false, 0, n⟩) ∧ Keep (fun _ => False) w w' := by
  have hb := heap_alloc_new w (.cells Z3 64)
  have hk := (Keep.refl (fun _ => False) w).alloc (.cells Z3 64)
  have HB := hid hb; have HK := hid hk
  clear hb hk
  go_enter Tryz.func47, Tryz.ntmps47
  go_upto_region 1 with fail
  generalize w.alloc (.cells Z3 64) = w0 at *
  generalize hsb : w.heap.size = sb at *
  have c0 := cell_of HB.out (i := 0) (by rfl)
  have c1 := cell_of HB.out (i := 1) (by rfl)
  have c2 := cell_of HB.out (i := 2) (by rfl)
  have f0 := free_of HB.out 0
  have f1 := free_of HB.out 1
  have f2 := free_of HB.out 2
  go_wp2
  (try simp only [Exit.inBlock, Exit.then])
  refine bodyPost_ret (results_c rfl _ rfl (run_loadVar_row _ sb _ 64 _ _ _ (cells3 (.bool false) (.int .u64 0) (.int .u64 (n : Int)) HB.out) Tryz.underlying64 rfl (by kernel_rfl))) rfl ?_
  exact ⟨rfl, ((HK.out.setCell_new (p := ⟨sb, 0, none⟩) (by show _ ≤ sb; omega) _).setCell_new (p := ⟨sb, 1, none⟩) (by show _ ≤ sb; omega) _).setCell_new (p := ⟨sb, 2, none⟩) (by show _ ≤ sb; omega) _⟩

set_option maxRecDepth 20000 in
theorem w_of (n : Nat) (hn : n < 9223372036854775808) (w : World) : Calls Tryz.prog 23 #[.int .i64 (n : Int)] w fun r w' => r = .returned (WV ⟨false, 0, n⟩) ∧ Keep (fun _ => False) w w' := by
  have hb := heap_alloc_new w (.cells Z3 64)
  have hk := (Keep.refl (fun _ => False) w).alloc (.cells Z3 64)
  have HB0 := hid hb; have HK0 := hid hk
  clear hb hk
  go_enter Tryz.func23, Tryz.ntmps23
  go_upto_region 1 with fail
  generalize w.alloc (.cells Z3 64) = w0 at *
  generalize hsb : w.heap.size = sb at *
  have g1 : decide ((n : Int) < 0) = false := decide_eq_false (by omega)
  go_wp2_with fail
  refine (w_ofword n _).mono ?_
  rintro r w1 ⟨rfl, hk1⟩
  have HK := hid (HK0.out.trans hk1)
  have HB := hid (hk1.get HB0.out (fun h => h))
  clear hk1
  have c0 := cell_of HB.out (i := 0) (by rfl)
  have c1 := cell_of HB.out (i := 1) (by rfl)
  have c2 := cell_of HB.out (i := 2) (by rfl)
  have f0 := free_of HB.out 0
  have f1 := free_of HB.out 1
  have f2 := free_of HB.out 2
  go_wp2
  (try simp only [Exit.inBlock, Exit.then])
  refine bodyPost_ret (results_c rfl _ rfl (run_loadVar_row _ sb _ 64 _ _ _ (cells3 (.bool false) (.int .u64 0) (.int .u64 (n : Int)) HB.out) Tryz.underlying64 rfl (by kernel_rfl))) rfl ?_
  exact ⟨rfl, ((HK.out.setCell_new (p := ⟨sb, 0, none⟩) (by show _ ≤ sb; omega) _).setCell_new (p := ⟨sb, 1, none⟩) (by show _ ≤ sb; omega) _).setCell_new (p := ⟨sb, 2, none⟩) (by show _ ≤ sb; omega) _⟩

set_option maxRecDepth 20000 in
theorem w_neg (x : WI) (hx : x.fit) (hf : x.form = true) (w : World) : Calls Tryz.prog 95 #[WV x] w fun r w' => r = .returned (WV (normW (!x.neg) x.hi x.lo)) ∧ Keep (fun _ => False) w w' := by
  have hk0 : Keep (fun _ => False) w ((w.alloc (.cells (WC x) 64)).alloc (.cells Z3 64)) := ((Keep.refl (fun _ => False) w).alloc _).alloc _
  have hb1 : ((w.alloc (.cells (WC x) 64)).alloc (.cells Z3 64)).heap[w.heap.size]? = some (.cells (WC x) 64 (0, 0)) := (((Keep.refl (fun _ => False) _).alloc _).get (heap_alloc_new w _) (fun h => h))
  have hb2 : ((w.alloc (.cells (WC x) 64)).alloc (.cells Z3 64)).heap[w.heap.size + 1]? = some (.cells Z3 64 (0, 0)) := by
    have := heap_alloc_new (w.alloc (.cells (WC x) 64)) (.cells Z3 64)
    simpa using this
  have HK0 := hid hk0; have HB1 := hid hb1; have HB2 := hid hb2
  clear hk0 hb1 hb2
  go_enter Tryz.func95, Tryz.ntmps95
  go_upto_region 1 with fail
  generalize (w.alloc (.cells (WC x) 64)).alloc (.cells Z3 64) = w0 at *
  generalize hsb : w.heap.size = sb at *
  have HX := hid hx; have HF := hid hf
  clear hx hf
  have a0 : w0.cell? ⟨sb, 0, none⟩ = some (.bool x.neg) := cell_of HB1.out (by rfl)
  have a1 : w0.cell? ⟨sb, 1, none⟩ = some (.int .u64 (x.hi : Int)) := cell_of HB1.out (by rfl)
  have a2 : w0.cell? ⟨sb, 2, none⟩ = some (.int .u64 (x.lo : Int)) := cell_of HB1.out (by rfl)
  go_wp2_with fail
  refine (w_form x HX.out _).mono ?_
  rintro r w1 ⟨rfl, hk1⟩
  rw [HF.out]
  have HK1 := hid (HK0.out.trans hk1)
  have HB3 := hid (hk1.get HB1.out (fun h => h)); have HB4 := hid (hk1.get HB2.out (fun h => h))
  clear hk1 a0 a1 a2
  have a0 : w1.cell? ⟨sb, 0, none⟩ = some (.bool x.neg) := cell_of HB3.out (by rfl)
  have a1 : w1.cell? ⟨sb, 1, none⟩ = some (.int .u64 (x.hi : Int)) := cell_of HB3.out (by rfl)
  have a2 : w1.cell? ⟨sb, 2, none⟩ = some (.int .u64 (x.lo : Int)) := cell_of HB3.out (by rfl)
  go_wp2_with fail
  refine (w_made (!x.neg) x.hi x.lo HX.out.1 HX.out.2 _).mono ?_
  rintro r w2 ⟨rfl, hk2⟩
  have HK := hid (HK1.out.trans hk2)
  have HB := hid (hk2.get HB4.out (fun h => h))
  clear hk2 a0 a1 a2
  generalize hy : normW (!x.neg) x.hi x.lo = y at *
  have HY := hid hy
  clear hy
  have c0 := cell_of HB.out (i := 0) (by rfl)
  have c1 := cell_of HB.out (i := 1) (by rfl)
  have c2 := cell_of HB.out (i := 2) (by rfl)
  have f0 := free_of HB.out 0
  have f1 := free_of HB.out 1
  have f2 := free_of HB.out 2
  go_wp2
  (try simp only [Exit.inBlock, Exit.then])
  refine bodyPost_ret (results_c rfl _ rfl (run_loadVar_row _ (sb + 1) _ 64 _ _ _ (cells3 (.bool y.neg) (.int .u64 (y.hi : Int)) (.int .u64 (y.lo : Int)) HB.out) Tryz.underlying64 rfl (by kernel_rfl))) rfl ?_
  exact ⟨by rw [HY.out], ((HK.out.setCell_new (p := ⟨sb + 1, 0, none⟩) (by show _ ≤ (sb + 1); omega) _).setCell_new (p := ⟨sb + 1, 1, none⟩) (by show _ ≤ (sb + 1); omega) _).setCell_new (p := ⟨sb + 1, 2, none⟩) (by show _ ≤ (sb + 1); omega) _⟩

set_option maxRecDepth 20000 in
theorem w_check (x y : WI) (hx : x.fit) (hy : y.fit) (fx : x.form = true) (fy : y.form = true) (w : World) : Calls Tryz.prog 119 #[WV x, WV y, .bool false] w fun r w' => r = .returned (.int .i64 0) ∧ Keep (fun _ => False) w w' := by
  have hk0 : Keep (fun _ => False) w ((w.alloc (.cells (WC x) 64)).alloc (.cells (WC y) 64)) := ((Keep.refl (fun _ => False) w).alloc _).alloc _
  have hb2 : ((w.alloc (.cells (WC x) 64)).alloc (.cells (WC y) 64)).heap[w.heap.size + 1]? = some (.cells (WC y) 64 (0, 0)) := by
    have := heap_alloc_new (w.alloc (.cells (WC x) 64)) (.cells (WC y) 64)
    simpa using this
  have HK0 := hid hk0; have HB2 := hid hb2
  have HX := hid hx; have HY := hid hy; have FX := hid fx; have FY := hid fy
  clear hk0 hb2 hx hy fx fy
  go_enter Tryz.func119, Tryz.ntmps119
  go_wp2_with fail
  refine (w_form x HX.out _).mono ?_
  rintro r w1 ⟨rfl, hk1⟩
  rw [FX.out]
  have HK1 := hid (HK0.out.trans hk1)
  have HB := hid (hk1.get HB2.out (fun h => h))
  clear hk1
  generalize w.heap.size = sb at *
  have a0 : w1.cell? ⟨sb + 1, 0, none⟩ = some (.bool y.neg) := cell_of HB.out (by rfl)
  have a1 : w1.cell? ⟨sb + 1, 1, none⟩ = some (.int .u64 (y.hi : Int)) := cell_of HB.out (by rfl)
  have a2 : w1.cell? ⟨sb + 1, 2, none⟩ = some (.int .u64 (y.lo : Int)) := cell_of HB.out (by rfl)
  go_wp2_with fail
  refine (w_form y HY.out _).mono ?_
  rintro r w2 ⟨rfl, hk2⟩
  rw [FY.out]
  have HK2 := hid (HK1.out.trans hk2)
  clear hk2 a0 a1 a2
  go_wp2
  go_ret
  exact ⟨rfl, HK2.out⟩

set_option maxRecDepth 20000 in
theorem w_fit (ng : Bool) (hi lo : Nat) (h1 : hi < 9223372036854775808) (h2 : lo < 18446744073709551616) (w : World) : Calls Tryz.prog 121 #[.bool ng, .int .u64 (hi : Int), .int .u64 (lo : Int)] w fun r w' => r = .returned (.tuple #[WV (normW ng hi lo), .int .i64 0]) ∧ Keep (fun _ => False) w w' := by
  have hb := heap_alloc_new w (.cells Z3 64)
  have hk := (Keep.refl (fun _ => False) w).alloc (.cells Z3 64)
  have HB0 := hid hb; have HK0 := hid hk
  clear hb hk
  go_enter Tryz.func121, Tryz.ntmps121
  go_upto_region 1 with fail
  generalize w.alloc (.cells Z3 64) = w0 at *
  generalize hsb : w.heap.size = sb at *
  have g1 : decide ((9223372036854775808 : Int) ≤ (hi : Int)) = false := decide_eq_false (by omega)
  go_wp2_with fail
  refine (w_made ng hi lo (by omega) h2 _).mono ?_
  rintro r w1 ⟨rfl, hk1⟩
  have HK := hid (HK0.out.trans hk1)
  have HB := hid (hk1.get HB0.out (fun h => h))
  clear hk1
  generalize hy : normW ng hi lo = y at *
  have HY := hid hy
  clear hy
  have c0 := cell_of HB.out (i := 0) (by rfl)
  have c1 := cell_of HB.out (i := 1) (by rfl)
  have c2 := cell_of HB.out (i := 2) (by rfl)
  have f0 := free_of HB.out 0
  have f1 := free_of HB.out 1
  have f2 := free_of HB.out 2
  go_wp2
  (try simp only [Exit.inBlock, Exit.then])
  refine bodyPost_ret (results_ct rfl _ rfl (run_loadVar_row _ sb _ 64 _ _ _ (cells3 (.bool y.neg) (.int .u64 (y.hi : Int)) (.int .u64 (y.lo : Int)) HB.out) Tryz.underlying64 rfl (by kernel_rfl))) rfl ?_
  exact ⟨by rw [HY.out]; rfl, ((HK.out.setCell_new (p := ⟨sb, 0, none⟩) (by show _ ≤ sb; omega) _).setCell_new (p := ⟨sb, 1, none⟩) (by show _ ≤ sb; omega) _).setCell_new (p := ⟨sb, 2, none⟩) (by show _ ≤ sb; omega) _⟩

end Go.Proofs.YtlhdofkgcbmnnaaGreatDoor

namespace Go.Proofs.YtlhdofkgcbmnnaaGreatDoor
open Go.RowKit Go.Proofs.Heap Go.Proofs.Wide

theorem neg_form (a : Nat) (ha : 0 < a) : WI.form ⟨true, 0, a⟩ = true := by
  unfold WI.form WI.mag
  simp
  omega
theorem normW_neg (a : Nat) (ha : 0 < a) : normW true 0 a = ⟨true, 0, a⟩ := by
  unfold normW
  have : decide (0 * 18446744073709551616 + a ≠ 0) = true := decide_eq_true (by omega)
  rw [this]; rfl

theorem ext_add64 (x y c : Nat) (hc : c ≤ 1) (w : World) :
    (callFunc 120 #[.int .u64 (x : Int), .int .u64 (y : Int), .int .u64 (c : Int)]).run Tryz.prog w =
      .ok (.value (.tuple #[.int .u64 (((x + y + c) % 18446744073709551616 : Nat) : Int), .int .u64 (((x + y + c) / 18446744073709551616 : Nat) : Int)])) w := by
  rw [run_callFunc_extern Tryz.func120 (by kernel_rfl) (by kernel_rfl) (by kernel_rfl) (e := add64Entry) (by kernel_rfl), run_add64 x y c (by omega) (by omega) (by omega) (by omega)]
  simp only [Result.andThen]
  congr 5 <;> omega

set_option maxRecDepth 20000 in
set_option maxHeartbeats 1000000 in
theorem w_add_nn (a b : Nat) (ha : 0 < a) (hb : 0 < b) (hab : a + b < 18446744073709551616) (w : World) :
    Calls Tryz.prog 88 #[WV ⟨true, 0, a⟩, WV ⟨true, 0, b⟩] w fun r w' => r = .returned (.tuple #[WV ⟨true, 0, a + b⟩, .int .i64 0]) ∧ Keep (fun _ => False) w w' := by
  have hk0 : Keep (fun _ => False) w (((w.alloc (.cells (WC ⟨true, 0, a⟩) 64)).alloc (.cells (WC ⟨true, 0, b⟩) 64)).alloc (.cells Z3 64)) := (((Keep.refl (fun _ => False) w).alloc _).alloc _).alloc _
  have hb1 : (((w.alloc (.cells (WC ⟨true, 0, a⟩) 64)).alloc (.cells (WC ⟨true, 0, b⟩) 64)).alloc (.cells Z3 64)).heap[w.heap.size]? = some (.cells (WC ⟨true, 0, a⟩) 64 (0, 0)) := ((((Keep.refl (fun _ => False) _).alloc _).alloc _).get (heap_alloc_new w _) (fun h => h))
  have hb2 : (((w.alloc (.cells (WC ⟨true, 0, a⟩) 64)).alloc (.cells (WC ⟨true, 0, b⟩) 64)).alloc (.cells Z3 64)).heap[w.heap.size + 1]? = some (.cells (WC ⟨true, 0, b⟩) 64 (0, 0)) := by
    have := (((Keep.refl (fun _ => False) ((w.alloc (.cells (WC ⟨true, 0, a⟩) 64)).alloc (.cells (WC ⟨true, 0, b⟩) 64))).alloc (.cells Z3 64)).get (heap_alloc_new (w.alloc (.cells (WC ⟨true, 0, a⟩) 64)) (.cells (WC ⟨true, 0, b⟩) 64)) (fun h => h))
    simpa using this
  have hb3 : (((w.alloc (.cells (WC ⟨true, 0, a⟩) 64)).alloc (.cells (WC ⟨true, 0, b⟩) 64)).alloc (.cells Z3 64)).heap[w.heap.size + 2]? = some (.cells Z3 64 (0, 0)) := by
    have := heap_alloc_new ((w.alloc (.cells (WC ⟨true, 0, a⟩) 64)).alloc (.cells (WC ⟨true, 0, b⟩) 64)) (.cells Z3 64)
    simpa using this
  have HK0 := hid hk0; have HB1 := hid hb1; have HB2 := hid hb2; have HB3 := hid hb3
  clear hk0 hb1 hb2 hb3
  go_enter Tryz.func88, Tryz.ntmps88
  go_upto_region 1 with fail
  generalize ((w.alloc (.cells (WC ⟨true, 0, a⟩) 64)).alloc (.cells (WC ⟨true, 0, b⟩) 64)).alloc (.cells Z3 64) = w0 at *
  generalize hsb : w.heap.size = sb at *
  have a0 : w0.cell? ⟨sb, 0, none⟩ = some (.bool true) := cell_of HB1.out (by rfl)
  have a1 : w0.cell? ⟨sb, 1, none⟩ = some (.int .u64 ((0 : Nat) : Int)) := cell_of HB1.out (by rfl)
  have a2 : w0.cell? ⟨sb, 2, none⟩ = some (.int .u64 (a : Int)) := cell_of HB1.out (by rfl)
  have b0 : w0.cell? ⟨sb + 1, 0, none⟩ = some (.bool true) := cell_of HB2.out (by rfl)
  have b1 : w0.cell? ⟨sb + 1, 1, none⟩ = some (.int .u64 ((0 : Nat) : Int)) := cell_of HB2.out (by rfl)
  have b2 : w0.cell? ⟨sb + 1, 2, none⟩ = some (.int .u64 (b : Int)) := cell_of HB2.out (by rfl)
  go_wp2_with fail
  refine (w_check ⟨true, 0, a⟩ ⟨true, 0, b⟩ ⟨(by decide : (0 : Nat) < 18446744073709551616), (by omega : a < 18446744073709551616)⟩ ⟨(by decide : (0 : Nat) < 18446744073709551616), (by omega : b < 18446744073709551616)⟩ (neg_form a ha) (neg_form b hb) _).mono ?_
  rintro r w1 ⟨rfl, hk1⟩
  have HK1 := hid (HK0.out.trans hk1)
  have HB4 := hid (hk1.get HB1.out (fun h => h)); have HB5 := hid (hk1.get HB2.out (fun h => h)); have HB6 := hid (hk1.get HB3.out (fun h => h))
  clear hk1 a0 a1 a2 b0 b1 b2
  have a0 : w1.cell? ⟨sb, 0, none⟩ = some (.bool true) := cell_of HB4.out (by rfl)
  have a1 : w1.cell? ⟨sb, 1, none⟩ = some (.int .u64 ((0 : Nat) : Int)) := cell_of HB4.out (by rfl)
  have a2 : w1.cell? ⟨sb, 2, none⟩ = some (.int .u64 (a : Int)) := cell_of HB4.out (by rfl)
  have b0 : w1.cell? ⟨sb + 1, 0, none⟩ = some (.bool true) := cell_of HB5.out (by rfl)
  have b1 : w1.cell? ⟨sb + 1, 1, none⟩ = some (.int .u64 ((0 : Nat) : Int)) := cell_of HB5.out (by rfl)
  have b2 : w1.cell? ⟨sb + 1, 2, none⟩ = some (.int .u64 (b : Int)) := cell_of HB5.out (by rfl)
  have q1 : (callFunc 120 #[.int .u64 (a : Int), .int .u64 (b : Int), .int .u64 0]).run Tryz.prog w1 = .ok (.value (.tuple #[.int .u64 ((a + b : Nat) : Int), .int .u64 ((0 : Nat) : Int)])) w1 := by
    have := ext_add64 a b 0 (by omega) w1
    rwa [Nat.add_zero, Nat.mod_eq_of_lt hab, Nat.div_eq_of_lt hab] at this
  have q2 : (callFunc 120 #[.int .u64 0, .int .u64 0, .int .u64 0]).run Tryz.prog w1 = .ok (.value (.tuple #[.int .u64 ((0 : Nat) : Int), .int .u64 ((0 : Nat) : Int)])) w1 := ext_add64 0 0 0 (by omega) w1
  go_wp2_with fail
  refine (w_fit true 0 (a + b) (by omega) hab _).mono ?_
  rintro r w2 ⟨rfl, hk2⟩
  rw [normW_neg (a + b) (by omega)]
  have HK := hid (HK1.out.trans hk2)
  have HB := hid (hk2.get HB6.out (fun h => h))
  clear hk2 a0 a1 a2 b0 b1 b2 q1 q2
  have c0 := cell_of HB.out (i := 0) (by rfl)
  have c1 := cell_of HB.out (i := 1) (by rfl)
  have c2 := cell_of HB.out (i := 2) (by rfl)
  have f0 := free_of HB.out 0
  have f1 := free_of HB.out 1
  have f2 := free_of HB.out 2
  go_wp2
  (try simp only [Exit.inBlock, Exit.then])
  refine bodyPost_ret (results_ct rfl _ rfl (run_loadVar_row _ (sb + 2) _ 64 _ _ _ (cells3 (.bool true) (.int .u64 ((0 : Nat) : Int)) (.int .u64 ((a + b : Nat) : Int)) HB.out) Tryz.underlying64 rfl (by kernel_rfl))) rfl ?_
  exact ⟨rfl, ((HK.out.setCell_new (p := ⟨sb + 2, 0, none⟩) (by show _ ≤ sb + 2; omega) _).setCell_new (p := ⟨sb + 2, 1, none⟩) (by show _ ≤ sb + 2; omega) _).setCell_new (p := ⟨sb + 2, 2, none⟩) (by show _ ≤ sb + 2; omega) _⟩
end Go.Proofs.YtlhdofkgcbmnnaaGreatDoor

namespace Go.Proofs.YtlhdofkgcbmnnaaGreatDoor
open Go.RowKit Go.Proofs.Heap Go.Proofs.Wide

theorem pos_form (a : Nat) : WI.form ⟨false, 0, a⟩ = true := by
  unfold WI.form
  simp
/-- A kind's greatest number. -/
def greatN (k : Int) : Nat := if k = 1 then 1 else if k = 2 then 127 else if k = 3 then 32767 else if k = 4 then 2147483647 else if k = 5 then 9223372036854775807 else if k = 6 then 255 else if k = 7 then 65535 else if k = 8 then 4294967295 else 18446744073709551615

set_option maxRecDepth 20000 in
set_option maxHeartbeats 1000000 in
theorem w_sub_nn (a b : Nat) (ha : 0 < a) (hb : 0 < b) (hab : a + b < 18446744073709551616) (w : World) :
    Calls Tryz.prog 89 #[WV ⟨true, 0, a⟩, WV ⟨false, 0, b⟩] w fun r w' => r = .returned (.tuple #[WV ⟨true, 0, a + b⟩, .int .i64 0]) ∧ Keep (fun _ => False) w w' := by
  have hk0 : Keep (fun _ => False) w (((w.alloc (.cells (WC ⟨true, 0, a⟩) 64)).alloc (.cells (WC ⟨false, 0, b⟩) 64)).alloc (.cells Z3 64)) := (((Keep.refl (fun _ => False) w).alloc _).alloc _).alloc _
  have hb1 : (((w.alloc (.cells (WC ⟨true, 0, a⟩) 64)).alloc (.cells (WC ⟨false, 0, b⟩) 64)).alloc (.cells Z3 64)).heap[w.heap.size]? = some (.cells (WC ⟨true, 0, a⟩) 64 (0, 0)) := ((((Keep.refl (fun _ => False) _).alloc _).alloc _).get (heap_alloc_new w _) (fun h => h))
  have hb2 : (((w.alloc (.cells (WC ⟨true, 0, a⟩) 64)).alloc (.cells (WC ⟨false, 0, b⟩) 64)).alloc (.cells Z3 64)).heap[w.heap.size + 1]? = some (.cells (WC ⟨false, 0, b⟩) 64 (0, 0)) := by
    have := (((Keep.refl (fun _ => False) ((w.alloc (.cells (WC ⟨true, 0, a⟩) 64)).alloc (.cells (WC ⟨false, 0, b⟩) 64))).alloc (.cells Z3 64)).get (heap_alloc_new (w.alloc (.cells (WC ⟨true, 0, a⟩) 64)) (.cells (WC ⟨false, 0, b⟩) 64)) (fun h => h))
    simpa using this
  have hb3 : (((w.alloc (.cells (WC ⟨true, 0, a⟩) 64)).alloc (.cells (WC ⟨false, 0, b⟩) 64)).alloc (.cells Z3 64)).heap[w.heap.size + 2]? = some (.cells Z3 64 (0, 0)) := by
    have := heap_alloc_new ((w.alloc (.cells (WC ⟨true, 0, a⟩) 64)).alloc (.cells (WC ⟨false, 0, b⟩) 64)) (.cells Z3 64)
    simpa using this
  have HK0 := hid hk0; have HB1 := hid hb1; have HB2 := hid hb2; have HB3 := hid hb3
  clear hk0 hb1 hb2 hb3
  go_enter Tryz.func89, Tryz.ntmps89
  go_upto_region 1 with fail
  generalize (((w.alloc (.cells (WC ⟨true, 0, a⟩) 64)).alloc (.cells (WC ⟨false, 0, b⟩) 64)).alloc (.cells Z3 64)) = w0 at *
  generalize hsb : w.heap.size = sb at *
  have a0 : w0.cell? ⟨sb, 0, none⟩ = some (.bool true) := cell_of HB1.out (by rfl)
  have a1 : w0.cell? ⟨sb, 1, none⟩ = some (.int .u64 ((0 : Nat) : Int)) := cell_of HB1.out (by rfl)
  have a2 : w0.cell? ⟨sb, 2, none⟩ = some (.int .u64 (a : Int)) := cell_of HB1.out (by rfl)
  have b0 : w0.cell? ⟨sb + 1, 0, none⟩ = some (.bool false) := cell_of HB2.out (by rfl)
  have b1 : w0.cell? ⟨sb + 1, 1, none⟩ = some (.int .u64 ((0 : Nat) : Int)) := cell_of HB2.out (by rfl)
  have b2 : w0.cell? ⟨sb + 1, 2, none⟩ = some (.int .u64 (b : Int)) := cell_of HB2.out (by rfl)
  have fta : WI.fit ⟨true, 0, a⟩ := ⟨(by decide : (0 : Nat) < 18446744073709551616), (by omega : a < 18446744073709551616)⟩
  have ftb : WI.fit ⟨false, 0, b⟩ := ⟨(by decide : (0 : Nat) < 18446744073709551616), (by omega : b < 18446744073709551616)⟩
  have FTA := hid fta; have FTB := hid ftb
  clear fta ftb
  go_wp2_with fail
  refine (w_check ⟨true, 0, a⟩ ⟨false, 0, b⟩ FTA.out FTB.out (neg_form a ha) (pos_form b) _).mono ?_
  rintro r w1 ⟨rfl, hk1⟩
  have HK1 := hid (HK0.out.trans hk1).drew
  have HB4 := hid (hk1.drew.get HB1.out (fun h => h)); have HB5 := hid (hk1.drew.get HB2.out (fun h => h)); have HB6 := hid (hk1.drew.get HB3.out (fun h => h))
  clear hk1 a0 a1 a2 b0 b1 b2
  have a0 : w1.drew.cell? ⟨sb, 0, none⟩ = some (.bool true) := cell_of HB4.out (by rfl)
  have a1 : w1.drew.cell? ⟨sb, 1, none⟩ = some (.int .u64 ((0 : Nat) : Int)) := cell_of HB4.out (by rfl)
  have a2 : w1.drew.cell? ⟨sb, 2, none⟩ = some (.int .u64 (a : Int)) := cell_of HB4.out (by rfl)
  have b0 : w1.drew.cell? ⟨sb + 1, 0, none⟩ = some (.bool false) := cell_of HB5.out (by rfl)
  have b1 : w1.drew.cell? ⟨sb + 1, 1, none⟩ = some (.int .u64 ((0 : Nat) : Int)) := cell_of HB5.out (by rfl)
  have b2 : w1.drew.cell? ⟨sb + 1, 2, none⟩ = some (.int .u64 (b : Int)) := cell_of HB5.out (by rfl)
  go_wp2_with fail
  refine Plan.wp_region_pl [(false, 0, []), (false, 1, []), (true, 2, [0]), (true, 3, []), (false, 4, []), (false, 5, []), (true, 6, []), (false, 7, [])] (by kernel_rfl) (by kernel_rfl) ?_
  repeat (refine Plan.pl_st rfl ?_; go_big_quiet_step (fail); refine wpQuiet_nil ?_)
  refine Plan.pl_ac rfl ?_
  go_wp2_with fail
  refine (w_neg ⟨false, 0, b⟩ FTB.out (pos_form b) _).mono ?_
  rintro r w2 ⟨rfl, hk2⟩
  rw [show normW (!(false : Bool)) 0 b = ⟨true, 0, b⟩ from normW_neg b hb]
  have HK2 := hid (HK1.out.trans hk2)
  have HB7 := hid (hk2.get HB4.out (fun h => h)); have HB8 := hid (hk2.get HB5.out (fun h => h)); have HB9 := hid (hk2.get HB6.out (fun h => h))
  clear hk2 a0 a1 a2 b0 b1 b2
  have a0 : w2.cell? ⟨sb, 0, none⟩ = some (.bool true) := cell_of HB7.out (by rfl)
  have a1 : w2.cell? ⟨sb, 1, none⟩ = some (.int .u64 ((0 : Nat) : Int)) := cell_of HB7.out (by rfl)
  have a2 : w2.cell? ⟨sb, 2, none⟩ = some (.int .u64 (a : Int)) := cell_of HB7.out (by rfl)
  have b0 : w2.cell? ⟨sb + 1, 0, none⟩ = some (.bool false) := cell_of HB8.out (by rfl)
  have b1 : w2.cell? ⟨sb + 1, 1, none⟩ = some (.int .u64 ((0 : Nat) : Int)) := cell_of HB8.out (by rfl)
  have b2 : w2.cell? ⟨sb + 1, 2, none⟩ = some (.int .u64 (b : Int)) := cell_of HB8.out (by rfl)
  go_wp2
  refine Plan.plQ_mk ?_ ?_
  · repeat (refine Plan.chk_st rfl ?_ ?_; focus (go_big_quiet_step (fail); exact wpQuiet_nil rfl))
    exact Plan.chk_end
  refine Plan.pl_ac rfl ?_
  go_wp2_with fail
  refine (w_add_nn a b ha hb hab _).mono ?_
  rintro r w3 ⟨rfl, hk3⟩
  have HK := hid (HK2.out.trans hk3)
  have HB := hid (hk3.get HB9.out (fun h => h))
  clear hk3 a0 a1 a2 b0 b1 b2
  have c0 := cell_of HB.out (i := 0) (by rfl)
  have c1 := cell_of HB.out (i := 1) (by rfl)
  have c2 := cell_of HB.out (i := 2) (by rfl)
  have f0 := free_of HB.out 0
  have f1 := free_of HB.out 1
  have f2 := free_of HB.out 2
  go_wp2
  refine Plan.plQ_mk ?_ ?_
  · exact Plan.chk_end
  repeat (refine Plan.pl_st rfl ?_; go_big_quiet_step (fail); refine wpQuiet_nil ?_)
  refine Plan.pl_ac rfl ?_
  go_wp2
  refine Plan.plQ_mk ?_ ?_
  · exact Plan.chk_end
  repeat (refine Plan.pl_st rfl ?_; go_big_quiet_step (fail); refine wpQuiet_nil ?_)
  refine Plan.pl_end ?_
  go_wp2
  (try simp only [Exit.inBlock, Exit.then])
  refine bodyPost_ret (results_ct rfl _ rfl (run_loadVar_row _ (sb + 2) _ 64 _ _ _ (cells3 (.bool true) (.int .u64 ((0 : Nat) : Int)) (.int .u64 ((a + b : Nat) : Int)) HB.out) Tryz.underlying64 rfl (by kernel_rfl))) rfl ?_
  exact ⟨rfl, ((HK.out.setCell_new (p := ⟨sb + 2, 0, none⟩) (by show _ ≤ sb + 2; omega) _).setCell_new (p := ⟨sb + 2, 1, none⟩) (by show _ ≤ sb + 2; omega) _).setCell_new (p := ⟨sb + 2, 2, none⟩) (by show _ ≤ sb + 2; omega) _⟩

end Go.Proofs.YtlhdofkgcbmnnaaGreatDoor

namespace Go.Proofs.YtlhdofkgcbmnnaaGreatDoor
open Go.RowKit Go.Proofs.Heap Go.Proofs.Wide

end Go.Proofs.YtlhdofkgcbmnnaaGreatDoor

namespace Go.Proofs.YtlhdofkgcbmnnaaGreatDoor
open Go.RowKit Go.Proofs.Heap Go.Proofs.Wide

def leastW (k : Int) : WI := if signK k = true then ⟨true, 0, greatN k + 1⟩ else ⟨false, 0, 0⟩
def greatW (k : Int) : WI := ⟨false, 0, greatN k⟩
theorem greatN_lt (k : Int) : greatN k < 18446744073709551616 := by
  unfold greatN
  repeat' split
  all_goals decide
theorem greatN_sign {k : Int} (h : signK k = true) : 0 < greatN k ∧ greatN k + 1 < 18446744073709551616 := by
  have := of_decide_eq_true h
  have hk : k = 2 ∨ k = 3 ∨ k = 4 ∨ k = 5 := by omega
  rcases hk with rfl | rfl | rfl | rfl <;> decide
theorem greatW_fit (k : Int) : (greatW k).fit := ⟨(by decide : (0 : Nat) < 18446744073709551616), greatN_lt k⟩
theorem leastW_fit (k : Int) : (leastW k).fit := by
  unfold leastW
  cases h : signK k
  · rw [if_neg (by simp)]; exact ⟨(by decide : (0 : Nat) < 18446744073709551616), (by decide : (0 : Nat) < 18446744073709551616)⟩
  · rw [if_pos rfl]; exact ⟨(by decide : (0 : Nat) < 18446744073709551616), (greatN_sign h).2⟩
theorem greatW_form (k : Int) : (greatW k).form = true := pos_form _
theorem leastW_form (k : Int) : (leastW k).form = true := by
  unfold leastW
  cases h : signK k
  · rw [if_neg (by simp)]; exact pos_form 0
  · rw [if_pos rfl]; exact neg_form _ (by omega)

/-- Whether a number fits a kind. -/
def fitsB (k : Int) (x : WI) : Bool := kindB k && (x.form && (decide (0 ≤ cmpW x (leastW k)) && decide (cmpW x (greatW k) ≤ 0)))

end Go.Proofs.YtlhdofkgcbmnnaaGreatDoor

namespace Go.Proofs.TMap
open Go.RowKit Go.Proofs.Heap Go.WideMaps

/-- Block b is a map of at most n entries, true just where f is. -/
def TM (P : Program) (tK tE : TypeId) (w : World) (b n : Nat) (f : List UInt8 → Bool) : Prop :=
  ∃ D : DataW Unit, w.ownsMap P tK (plainElem P tE) b n D ∧ Maps.IsMap D ∧ ∀ l, D.atKey (.string l) (.lit (.bool false)) = .lit (.bool (f l))

section
variable {P : Program} {tK tE : TypeId} {w : World} {b n : Nat} {f : List UInt8 → Bool}

theorem TM.made (w : World) : TM P tK tE (w.alloc (.map #[] 0)) w.heap.size 0 (fun _ => false) :=
  ⟨_, World.ownsMap_made w P tK _, ⟨_, rfl⟩, fun _ => rfl⟩
theorem TM.lt (h : TM P tK tE w b n f) : b < w.heap.size := by obtain ⟨D, h1, _⟩ := h; exact h1.lt
theorem TM.keep {w' : World} (h : TM P tK tE w b n f) (hk : w'.heap[b]? = w.heap[b]?) : TM P tK tE w' b n f := by
  obtain ⟨D, ⟨es, clock, h1, h2⟩, h3⟩ := h
  exact ⟨D, ⟨es, clock, hk.trans h1, h2⟩, h3⟩

/-- 'm[s]'. -/
theorem TM.look {t : TypeId} (h : TM P tK tE w b n f) (hk : P.underlying tK = some .string) (ht : P.underlying t = some (.map tK tE)) (he : P.underlying tE = some .bool) (hz : (zeroValue tE).run P w = .ok (.bool false) w) (s : ByteArray) (hs : s.size ≤ maxLen) :
    (Instr.lookup t (.map (some b)) (.string s) false).run P w = .ok (.bool (f s.data.toList)) w := by
  obtain ⟨D, h1, h2, h3⟩ := h
  obtain ⟨v, ps, hrun, hv⟩ := h1.lookup (Maps.string_keyed hk) ht hz (plainElem_bool he false) (keyOf_string_mk hk hs)
  rw [h3] at hv
  rw [hrun]
  cases v <;> simp [plainElem, he] at hv
  · rw [hv.1]

/-- 'm[s] = true', at the operation. -/
theorem wpList_tm_put {ops : Array Oper} {rest : List Oper} {o : Oper} {a : Act} {Q : Exit → Act → World → Prop} (hg : o.guard = none) (m x v : Operand) (t : TypeId) (hop : o.op = Op.mapUpdate t m x v)
    (hk : P.underlying tK = some .string) (ht : P.underlying t = some (.map tK tE)) (he : P.underlying tE = some .bool)
    (h : TM P tK tE w b n f) (hn : n < maxLen) (hm : a.eval m = .map (some b)) (s : ByteArray) (hs : s.size ≤ maxLen) (hx : a.eval x = .string s) (hv : a.eval v = .bool true)
    (hK : ∀ w', TM P tK tE w' b (n + 1) (fun l => decide (l = s.data.toList) || f l) → w.grownBy w' (some b) → wpList P ops Q rest (a.put o.dst undef) w') : wpList P ops Q (o :: rest) a w := by
  obtain ⟨D, h1, h2, h3⟩ := h
  refine wpList_mapUpdate_own w hg m x v t hop tK tE (Maps.string_keyed hk) ht _ b n D hm h1 hn _ _ _ hx hv (keyOf_string_mk hk hs) _ [] (plainElem_bool he true) ?_
  intro w' g1 g2
  refine hK w' ⟨_, g1, ?_, fun l => ?_⟩ g2
  · obtain ⟨es, rfl⟩ := h2; exact ⟨_, rfl⟩
  · by_cases hl : l = s.data.toList
    · rw [hl, Maps.atKey_put_same h2 (by trivial)]; simp
    · rw [Maps.atKey_put_other (fun e => hl (by injection e)), h3]; simp [hl]
end
end Go.Proofs.TMap

namespace Go.Proofs.YtlhdofkgcbmnnaaGreatDoor
open Go.RowKit Go.Proofs.Heap Go.Proofs.Sch Go.Proofs.TMap

/-- Whether a text is in a list. -/
def memB (s : ByteArray) (ns : List ByteArray) : Bool := ns.any (fun m => decide (s = m))
/-- Whether names stop a check: one isn't a name, or was there. -/
def fldBad : List ByteArray → List Fld → Bool
  | _, [] => false
  | seen, f :: r => !nameB f.name || (memB f.name seen || fldBad (seen ++ [f.name]) r)
/-- The error of fields with their names. -/
def fieldsC (fs : List Fld) : Nat := if fldBad [] fs = true then 4 else layC fs

def seenF (ns : List ByteArray) : List UInt8 → Bool := fun l => ns.any (fun m => decide (l = m.data.toList))
theorem seenF_mem (ns : List ByteArray) (s : ByteArray) : seenF ns s.data.toList = memB s ns := by
  have h : ∀ m : ByteArray, (s.data.toList = m.data.toList) ↔ s = m := fun m => ⟨fun e => by cases s; cases m; simp at e; simp [e], fun e => e ▸ rfl⟩
  unfold seenF memB
  congr 1
  funext m
  simp only [h m]
theorem seenF_put (ns : List ByteArray) (s : ByteArray) : (fun l => decide (l = s.data.toList) || seenF ns l) = seenF (ns ++ [s]) := by
  funext l
  unfold seenF
  rw [List.any_append]
  simp [Bool.or_comm]
theorem drop_next {α : Type} {l : List α} {k : Nat} {x : α} (h : l[k]? = some x) : l.drop k = x :: l.drop (k + 1) := by
  obtain ⟨hk, rfl⟩ := List.getElem?_eq_some_iff.1 h
  exact List.drop_eq_getElem_cons hk
theorem nameB_size {s : ByteArray} (h : nameB s = true) : s.size ≤ 12 := (of_decide_eq_true h).2.1
theorem zero_bool (w : World) : (zeroValue 4).run Tryz.prog w = .ok (.bool false) w := by kernel_rfl

abbrev TS := TM Tryz.prog 9 4

end Go.Proofs.YtlhdofkgcbmnnaaGreatDoor

namespace Go.Proofs.YtlhdofkgcbmnnaaGreatDoor
open Go.RowKit Go.Proofs.Heap Go.Proofs.Sch Go.Proofs.Wide

/-- How many elements the fields have. -/
def sumN : List Fld → Nat
  | [] => 0
  | f :: r => f.count.toNat + sumN r
theorem sumN_append (a b : List Fld) : sumN (a ++ b) = sumN a + sumN b := by
  induction a with
  | nil => simp [sumN]
  | cons x a ih => simp [sumN, ih]; omega
theorem layC_zero {fs : List Fld} (h : layC fs = 0) : fs.length ≤ 8 ∧ (∀ f ∈ fs, okF f) := by
  unfold layC at h
  by_cases h1 : 8 < fs.length
  · rw [if_pos h1] at h; omega
  · rw [if_neg h1] at h
    by_cases h2 : ∀ f ∈ fs, okF f
    · exact ⟨by omega, h2⟩
    · rw [if_neg h2] at h; omega
theorem sumN_next {fs : List Fld} {k : Nat} {f : Fld} (h : fs[k]? = some f) : sumN (fs.take (k + 1)) = sumN (fs.take k) + f.count.toNat := by
  rw [take_next h, sumN_append]; simp [sumN]
theorem sumN_le (fs : List Fld) (h : ∀ f ∈ fs, okF f) : sumN fs ≤ 8 * fs.length := by
  induction fs with
  | nil => simp [sumN]
  | cons f r ih =>
    have h1 := (h f (by simp)).2
    have h2 := ih (fun g hg => h g (by simp [hg]))
    simp only [sumN, List.length_cons]
    omega

end Go.Proofs.YtlhdofkgcbmnnaaGreatDoor

namespace Go.Proofs.Sch
open Go.RowKit Go.Proofs.Heap Go.Proofs.Wide
def IntAt (w : World) (b o : Nat) (x : WI) : Prop := w.cell? ⟨b, o, none⟩ = some (.bool x.neg) ∧ w.cell? ⟨b, o + 1, none⟩ = some (.int .u64 (x.hi : Int)) ∧ w.cell? ⟨b, o + 2, none⟩ = some (.int .u64 (x.lo : Int))
abbrev XP := RowP 3 IntAt
theorem XP.low {w w' : World} {B : Nat} {p : Option Addr} {l : List WI} (h : XP w B p l) (hl : Low B w w') : XP w' B p l :=
  RowP.imp h (Nat.le_refl _) fun b o x hb hx => ⟨by rw [hl.cell hb]; exact hx.1, by rw [hl.cell hb]; exact hx.2.1, by rw [hl.cell hb]; exact hx.2.2⟩
theorem XP.mono {w : World} {B B' : Nat} {p : Option Addr} {l : List WI} (h : XP w B p l) (hB : B ≤ B') : XP w B' p l := RowP.imp h hB fun _ _ _ _ hx => hx
theorem XP.at {w : World} {B : Nat} {p : Option Addr} {l : List WI} (h : XP w B p l) {i : Nat} {f : WI} (hi : l[i]? = some f) : ∃ b off, p = some ⟨b, off, none⟩ ∧ b < B ∧ w.cell? ⟨b, off + i * 3, none⟩ = some (.bool f.neg) ∧ w.cell? ⟨b, off + i * 3 + 1, none⟩ = some (.int .u64 (f.hi : Int)) ∧ w.cell? ⟨b, off + i * 3 + 2, none⟩ = some (.int .u64 (f.lo : Int)) := by
  rcases h with rfl | ⟨b, off, hp, hb, hc⟩
  · simp at hi
  · obtain ⟨h1, h2, h3⟩ := hc i f hi
    exact ⟨b, off, hp, hb, h1, h2, h3⟩
/-- The rest of a row. -/
theorem XP.drop {w : World} {B b off : Nat} {l : List WI} (h : XP w B (some ⟨b, off, none⟩) l) (n : Nat) : XP w B (some ⟨b, off + n * 3, none⟩) (l.drop n) := by
  rcases h with rfl | ⟨b', off', hp, hb, hc⟩
  · exact .inl (by simp)
  · injection hp with hp
    injection hp with h1 h2
    subst h1; subst h2
    refine .inr ⟨_, _, rfl, hb, fun i x hx => ?_⟩
    rw [List.getElem?_drop] at hx
    have := hc (n + i) x hx
    rwa [show off + (n + i) * 3 = off + n * 3 + i * 3 by omega] at this
end Go.Proofs.Sch
namespace Go.Proofs.YtlhdofkgcbmnnaaGreatDoor
open Go.RowKit Go.Proofs.Heap Go.Proofs.Sch Go.Proofs.Wide

/-- Whether all numbers fit their fields' kinds. -/
def fitRun : List Fld → List WI → Bool
  | [], _ => true
  | f :: r, vs => (vs.take f.count.toNat).all (fitsB f.kind) && fitRun r (vs.drop f.count.toNat)
/-- The error of a value. -/
def fitC (fs : List Fld) (vs : List WI) : Nat := if layC fs = 0 then (if vs.length = sumN fs then (if fitRun fs vs = true then 0 else 3) else 4) else layC fs

end Go.Proofs.YtlhdofkgcbmnnaaGreatDoor

namespace Go.Proofs.Sch
open Go.RowKit Go.Proofs.Heap Go.Proofs.Wide

/-- An instruction of a formula. -/
structure Ins where
  op : Int
  a : Int
  b : Int
  k : WI
/-- A rule: the new component's id, the old one's, a formula for each field. -/
structure Rul where
  new : Int
  old : Int
  exprs : List (List Ins)

def InsAt (w : World) (b o : Nat) (x : Ins) : Prop := w.cell? ⟨b, o, none⟩ = some (.int .i64 x.op) ∧ w.cell? ⟨b, o + 1, none⟩ = some (.int .i64 x.a) ∧ w.cell? ⟨b, o + 2, none⟩ = some (.int .i64 x.b) ∧
  w.cell? ⟨b, o + 3, none⟩ = some (.bool x.k.neg) ∧ w.cell? ⟨b, o + 4, none⟩ = some (.int .u64 (x.k.hi : Int)) ∧ w.cell? ⟨b, o + 5, none⟩ = some (.int .u64 (x.k.lo : Int))
abbrev IP := RowP 6 InsAt
def ExAt (B : Nat) (w : World) (b o : Nat) (x : List Ins) : Prop := ∃ p k, w.cell? ⟨b, o, none⟩ = some (.slice p x.length k) ∧ x.length ≤ k ∧ IP w B p x
def EP (w : World) (B : Nat) (p : Option Addr) (l : List (List Ins)) : Prop := RowP 1 (ExAt B) w B p l
def RulAt (B : Nat) (w : World) (b o : Nat) (x : Rul) : Prop := w.cell? ⟨b, o, none⟩ = some (.int .i64 x.new) ∧ w.cell? ⟨b, o + 1, none⟩ = some (.int .i64 x.old) ∧
  ∃ p k, w.cell? ⟨b, o + 2, none⟩ = some (.slice p x.exprs.length k) ∧ x.exprs.length ≤ k ∧ EP w B p x.exprs
/-- A row of rules. -/
def UP (w : World) (B : Nat) (p : Option Addr) (l : List Rul) : Prop := RowP 3 (RulAt B) w B p l

section
variable {w w' : World} {B B' : Nat} {p : Option Addr}
theorem IP.low {l : List Ins} (h : IP w B p l) (hl : Low B w w') : IP w' B p l :=
  RowP.imp h (Nat.le_refl _) fun b o x hb hx => ⟨by rw [hl.cell hb]; exact hx.1, by rw [hl.cell hb]; exact hx.2.1, by rw [hl.cell hb]; exact hx.2.2.1, by rw [hl.cell hb]; exact hx.2.2.2.1, by rw [hl.cell hb]; exact hx.2.2.2.2.1, by rw [hl.cell hb]; exact hx.2.2.2.2.2⟩
theorem IP.mono {l : List Ins} (h : IP w B p l) (hB : B ≤ B') : IP w B' p l := RowP.imp h hB fun _ _ _ _ hx => hx
theorem IP.at {l : List Ins} (h : IP w B p l) {i : Nat} {x : Ins} (hi : l[i]? = some x) : ∃ b off, p = some ⟨b, off, none⟩ ∧ b < B ∧ w.cell? ⟨b, off + i * 6, none⟩ = some (.int .i64 x.op) ∧ w.cell? ⟨b, off + i * 6 + 1, none⟩ = some (.int .i64 x.a) ∧ w.cell? ⟨b, off + i * 6 + 2, none⟩ = some (.int .i64 x.b) ∧
    w.cell? ⟨b, off + i * 6 + 3, none⟩ = some (.bool x.k.neg) ∧ w.cell? ⟨b, off + i * 6 + 4, none⟩ = some (.int .u64 (x.k.hi : Int)) ∧ w.cell? ⟨b, off + i * 6 + 5, none⟩ = some (.int .u64 (x.k.lo : Int)) := by
  rcases h with rfl | ⟨b, off, hp, hb, hc⟩
  · simp at hi
  · exact ⟨b, off, hp, hb, hc i x hi⟩
theorem EP.low {l : List (List Ins)} (h : EP w B p l) (hl : Low B w w') : EP w' B p l :=
  RowP.imp h (Nat.le_refl _) fun b o x hb hx => by
    obtain ⟨q, k, h1, h2, h3⟩ := hx
    exact ⟨q, k, by rw [hl.cell hb]; exact h1, h2, IP.low h3 hl⟩
theorem EP.mono {l : List (List Ins)} (h : EP w B p l) (hB : B ≤ B') : EP w B' p l :=
  RowP.imp h hB fun b o x hb hx => by
    obtain ⟨q, k, h1, h2, h3⟩ := hx
    exact ⟨q, k, h1, h2, IP.mono h3 hB⟩
theorem EP.at {l : List (List Ins)} (h : EP w B p l) {i : Nat} {x : List Ins} (hi : l[i]? = some x) : ∃ b off q k, p = some ⟨b, off, none⟩ ∧ b < B ∧ w.cell? ⟨b, off + i, none⟩ = some (.slice q x.length k) ∧ x.length ≤ k ∧ IP w B q x := by
  rcases h with rfl | ⟨b, off, hp, hb, hc⟩
  · simp at hi
  · obtain ⟨q, k, h1, h2, h3⟩ := hc i x hi
    rw [Nat.mul_one] at h1
    exact ⟨b, off, q, k, hp, hb, h1, h2, h3⟩
theorem UP.low {l : List Rul} (h : UP w B p l) (hl : Low B w w') : UP w' B p l :=
  RowP.imp h (Nat.le_refl _) fun b o x hb hx => by
    obtain ⟨h0, h1, q, k, h2, h3, h4⟩ := hx
    exact ⟨by rw [hl.cell hb]; exact h0, by rw [hl.cell hb]; exact h1, q, k, by rw [hl.cell hb]; exact h2, h3, EP.low h4 hl⟩
theorem UP.mono {l : List Rul} (h : UP w B p l) (hB : B ≤ B') : UP w B' p l :=
  RowP.imp h hB fun b o x hb hx => by
    obtain ⟨h0, h1, q, k, h2, h3, h4⟩ := hx
    exact ⟨h0, h1, q, k, h2, h3, EP.mono h4 hB⟩
theorem UP.at {l : List Rul} (h : UP w B p l) {i : Nat} {x : Rul} (hi : l[i]? = some x) : ∃ b off q k, p = some ⟨b, off, none⟩ ∧ b < B ∧ w.cell? ⟨b, off + i * 3, none⟩ = some (.int .i64 x.new) ∧ w.cell? ⟨b, off + i * 3 + 1, none⟩ = some (.int .i64 x.old) ∧
    w.cell? ⟨b, off + i * 3 + 2, none⟩ = some (.slice q x.exprs.length k) ∧ x.exprs.length ≤ k ∧ EP w B q x.exprs := by
  rcases h with rfl | ⟨b, off, hp, hb, hc⟩
  · simp at hi
  · obtain ⟨h0, h1, q, k, h2, h3, h4⟩ := hc i x hi
    exact ⟨b, off, q, k, hp, hb, h0, h1, h2, h3, h4⟩
end
end Go.Proofs.Sch

namespace Go.Proofs.YtlhdofkgcbmnnaaGreatDoor
open Go.RowKit Go.Proofs.Heap Go.Proofs.Sch Go.Proofs.Wide

abbrev InV (x : Ins) : Value := .agg #[.int .i64 x.op, .int .i64 x.a, .int .i64 x.b, .bool x.k.neg, .int .u64 (x.k.hi : Int), .int .u64 (x.k.lo : Int)]
abbrev InC (x : Ins) : Array Value := #[.int .i64 x.op, .int .i64 x.a, .int .i64 x.b, .bool x.k.neg, .int .u64 (x.k.hi : Int), .int .u64 (x.k.lo : Int)]
/-- Whether an instruction can be. -/
def insB (x : Ins) : Bool := decide (1 ≤ x.op ∧ x.op ≤ 17) && (x.k.form && decide (0 ≤ x.a ∧ 0 ≤ x.b ∧ x.a < 8 ∧ x.b < 8))
/-- How many numbers an instruction takes. -/
def argsN (op : Int) : Nat := if op = 1 ∨ op = 2 ∨ op = 3 ∨ op = 4 then 0 else if op = 10 ∨ op = 15 then 1 else if op = 16 then 3 else 2

set_option maxRecDepth 20000 in
set_option maxHeartbeats 4000000 in
theorem is_ins (x : Ins) (hx : x.k.fit) (w : World) : Calls Tryz.prog 84 #[InV x] w fun r w' => r = .returned (.bool (insB x)) ∧ Keep (fun _ => False) w w' := by
  obtain ⟨op, a, b, ⟨kn, kh, kl⟩⟩ := x
  have HB := hid (heap_alloc_new w (.cells #[.int .i64 op, .int .i64 a, .int .i64 b, .bool kn, .int .u64 (kh : Int), .int .u64 (kl : Int)] 66))
  have HK := hid ((Keep.refl (fun _ => False) w).alloc (.cells #[.int .i64 op, .int .i64 a, .int .i64 b, .bool kn, .int .u64 (kh : Int), .int .u64 (kl : Int)] 66))
  have HX := hid hx
  have hib : insB ⟨op, a, b, ⟨kn, kh, kl⟩⟩ = (decide (1 ≤ op ∧ op ≤ 17) && (WI.form ⟨kn, kh, kl⟩ && decide (0 ≤ a ∧ 0 ≤ b ∧ a < 8 ∧ b < 8))) := rfl
  have HI := hid hib
  clear hib hx
  go_enter Tryz.func84, Tryz.ntmps84
  go_upto_region 1 with fail
  generalize w.alloc (.cells #[.int .i64 op, .int .i64 a, .int .i64 b, .bool kn, .int .u64 (kh : Int), .int .u64 (kl : Int)] 66) = w1 at *
  generalize w.heap.size = sb at *
  have HW : Hid (∀ wy, Keep (fun _ => False) w1 wy → wy.cell? ⟨sb, 0, none⟩ = some (.int .i64 op) ∧ wy.cell? ⟨sb, 1, none⟩ = some (.int .i64 a) ∧ wy.cell? ⟨sb, 2, none⟩ = some (.int .i64 b) ∧ wy.cell? ⟨sb, 3, none⟩ = some (.bool kn) ∧ wy.cell? ⟨sb, 4, none⟩ = some (.int .u64 (kh : Int)) ∧ wy.cell? ⟨sb, 5, none⟩ = some (.int .u64 (kl : Int))) := hid (fun wy hk =>
    ⟨cell_of (hk.get HB.out id) (by rfl), cell_of (hk.get HB.out id) (by rfl), cell_of (hk.get HB.out id) (by rfl), cell_of (hk.get HB.out id) (by rfl), cell_of (hk.get HB.out id) (by rfl), cell_of (hk.get HB.out id) (by rfl)⟩)
  obtain ⟨s0, s1, s2, s3, s4, s5⟩ := HW.out _ (Keep.refl _ _)
  by_cases h1 : 1 ≤ op
  rotate_left
  · have g1 : decide (1 ≤ op) = false := decide_eq_false h1
    have G : Hid (decide (1 ≤ op ∧ op ≤ 17) = false) := hid (decide_eq_false (fun h => h1 h.1))
    go_wp2
    go_ret
    exact ⟨by rw [HI.out, G.out]; rfl, HK.out⟩
  have g1 : decide (1 ≤ op) = true := decide_eq_true h1
  by_cases h2 : op ≤ 17
  rotate_left
  · have g2 : decide (op ≤ 17) = false := decide_eq_false h2
    have G : Hid (decide (1 ≤ op ∧ op ≤ 17) = false) := hid (decide_eq_false (fun h => h2 h.2))
    go_wp2
    go_ret
    exact ⟨by rw [HI.out, G.out]; rfl, HK.out⟩
  have g2 : decide (op ≤ 17) = true := decide_eq_true h2
  have GO : Hid (decide (1 ≤ op ∧ op ≤ 17) = true) := hid (decide_eq_true ⟨h1, h2⟩)
  go_wp2_with fail
  refine (w_form ⟨kn, kh, kl⟩ HX.out _).mono ?_
  rintro r w2 ⟨rfl, hk2⟩
  have HK2 := hid hk2
  clear hk2 s0 s1 s2 s3 s4 s5 g1 g2 h1 h2
  cases hfm : WI.form ⟨kn, kh, kl⟩
  · have HFM := hid hfm
    clear hfm
    go_wp2
    go_ret
    exact ⟨by rw [HI.out, HFM.out, GO.out]; rfl, HK.out.trans HK2.out⟩
  have HFM := hid hfm
  clear hfm
  obtain ⟨s0, s1, s2, s3, s4, s5⟩ := HW.out _ HK2.out
  rcases Int.lt_trichotomy a b with hab | hab | hab
  · have hle : a ≤ b := by omega
    have hnb : ¬ b < a := by omega
    have hnl : ¬ b ≤ a := by omega
    by_cases hlo : 0 ≤ a
    · have q1 : decide (0 ≤ a) = true := decide_eq_true hlo
      by_cases hhi : b < 8
      · have q2 : decide (b < 8) = true := decide_eq_true hhi
        have G : Hid (decide (0 ≤ a ∧ 0 ≤ b ∧ a < 8 ∧ b < 8) = true) := hid (decide_eq_true (by omega))
        go_wp2
        go_ret
        exact ⟨by rw [HI.out, HFM.out, GO.out, G.out]; rfl, HK.out.trans HK2.out⟩
      · have q2 : decide (b < 8) = false := decide_eq_false hhi
        have G : Hid (decide (0 ≤ a ∧ 0 ≤ b ∧ a < 8 ∧ b < 8) = false) := hid (decide_eq_false (by omega))
        go_wp2
        go_ret
        exact ⟨by rw [HI.out, HFM.out, GO.out, G.out]; rfl, HK.out.trans HK2.out⟩
    · have q1 : decide (0 ≤ a) = false := decide_eq_false hlo
      have G : Hid (decide (0 ≤ a ∧ 0 ≤ b ∧ a < 8 ∧ b < 8) = false) := hid (decide_eq_false (by omega))
      go_wp2
      go_ret
      exact ⟨by rw [HI.out, HFM.out, GO.out, G.out]; rfl, HK.out.trans HK2.out⟩
  · subst hab
    have hle : a ≤ a := Int.le_refl _
    have hnb : ¬ a < a := by omega
    by_cases hlo : 0 ≤ a
    · have q1 : decide (0 ≤ a) = true := decide_eq_true hlo
      by_cases hhi : a < 8
      · have q2 : decide (a < 8) = true := decide_eq_true hhi
        have G : Hid (decide (0 ≤ a ∧ 0 ≤ a ∧ a < 8 ∧ a < 8) = true) := hid (decide_eq_true (by omega))
        go_wp2
        go_ret
        exact ⟨by rw [HI.out, HFM.out, GO.out, G.out]; rfl, HK.out.trans HK2.out⟩
      · have q2 : decide (a < 8) = false := decide_eq_false hhi
        have G : Hid (decide (0 ≤ a ∧ 0 ≤ a ∧ a < 8 ∧ a < 8) = false) := hid (decide_eq_false (by omega))
        go_wp2
        go_ret
        exact ⟨by rw [HI.out, HFM.out, GO.out, G.out]; rfl, HK.out.trans HK2.out⟩
    · have q1 : decide (0 ≤ a) = false := decide_eq_false hlo
      have G : Hid (decide (0 ≤ a ∧ 0 ≤ a ∧ a < 8 ∧ a < 8) = false) := hid (decide_eq_false (by omega))
      go_wp2
      go_ret
      exact ⟨by rw [HI.out, HFM.out, GO.out, G.out]; rfl, HK.out.trans HK2.out⟩
  · have hle : b ≤ a := by omega
    have hnb : ¬ a < b := by omega
    have hnl : ¬ a ≤ b := by omega
    by_cases hlo : 0 ≤ b
    · have q1 : decide (0 ≤ b) = true := decide_eq_true hlo
      by_cases hhi : a < 8
      · have q2 : decide (a < 8) = true := decide_eq_true hhi
        have G : Hid (decide (0 ≤ a ∧ 0 ≤ b ∧ a < 8 ∧ b < 8) = true) := hid (decide_eq_true (by omega))
        go_wp2
        go_ret
        exact ⟨by rw [HI.out, HFM.out, GO.out, G.out]; rfl, HK.out.trans HK2.out⟩
      · have q2 : decide (a < 8) = false := decide_eq_false hhi
        have G : Hid (decide (0 ≤ a ∧ 0 ≤ b ∧ a < 8 ∧ b < 8) = false) := hid (decide_eq_false (by omega))
        go_wp2
        go_ret
        exact ⟨by rw [HI.out, HFM.out, GO.out, G.out]; rfl, HK.out.trans HK2.out⟩
    · have q1 : decide (0 ≤ b) = false := decide_eq_false hlo
      have G : Hid (decide (0 ≤ a ∧ 0 ≤ b ∧ a < 8 ∧ b < 8) = false) := hid (decide_eq_false (by omega))
      go_wp2
      go_ret
      exact ⟨by rw [HI.out, HFM.out, GO.out, G.out]; rfl, HK.out.trans HK2.out⟩

set_option maxRecDepth 20000 in
set_option maxHeartbeats 4000000 in
theorem args_of (x : Ins) (w : World) : Calls Tryz.prog 77 #[InV x] w fun r w' => r = .returned (.int .i64 (argsN x.op : Int)) ∧ Keep (fun _ => False) w w' := by
  obtain ⟨op, a, b, ⟨kn, kh, kl⟩⟩ := x
  have HB := hid (heap_alloc_new w (.cells #[.int .i64 op, .int .i64 a, .int .i64 b, .bool kn, .int .u64 (kh : Int), .int .u64 (kl : Int)] 66))
  have HK := hid ((Keep.refl (fun _ => False) w).alloc (.cells #[.int .i64 op, .int .i64 a, .int .i64 b, .bool kn, .int .u64 (kh : Int), .int .u64 (kl : Int)] 66))
  simp only
  go_enter Tryz.func77, Tryz.ntmps77
  go_upto_region 1 with fail
  generalize w.alloc (.cells #[.int .i64 op, .int .i64 a, .int .i64 b, .bool kn, .int .u64 (kh : Int), .int .u64 (kl : Int)] 66) = w1 at *
  generalize w.heap.size = sb at *
  have s0 : w1.cell? ⟨sb, 0, none⟩ = some (.int .i64 op) := cell_of HB.out (by rfl)
  by_cases h1 : op = 1
  · subst h1; go_wp2; go_ret; exact ⟨rfl, HK.out⟩
  by_cases h2 : op = 2
  · subst h2; go_wp2; go_ret; exact ⟨rfl, HK.out⟩
  by_cases h3 : op = 3
  · subst h3; go_wp2; go_ret; exact ⟨rfl, HK.out⟩
  by_cases h4 : op = 4
  · subst h4; go_wp2; go_ret; exact ⟨rfl, HK.out⟩
  by_cases h10 : op = 10
  · subst h10; go_wp2; go_ret; exact ⟨rfl, HK.out⟩
  by_cases h15 : op = 15
  · subst h15; go_wp2; go_ret; exact ⟨rfl, HK.out⟩
  by_cases h16 : op = 16
  · subst h16; go_wp2; go_ret; exact ⟨rfl, HK.out⟩
  have g1 : (op == 1) = false := beq_eq_false_iff_ne.2 h1
  have g2 : (op == 2) = false := beq_eq_false_iff_ne.2 h2
  have g3 : (op == 3) = false := beq_eq_false_iff_ne.2 h3
  have g4 : (op == 4) = false := beq_eq_false_iff_ne.2 h4
  have g10 : (op == 10) = false := beq_eq_false_iff_ne.2 h10
  have g15 : (op == 15) = false := beq_eq_false_iff_ne.2 h15
  have g16 : (op == 16) = false := beq_eq_false_iff_ne.2 h16
  have G : Hid (argsN op = 2) := hid (by unfold argsN; rw [if_neg (by omega), if_neg (by omega), if_neg h16])
  clear h1 h2 h3 h4 h10 h15 h16
  go_wp2
  go_ret
  exact ⟨by rw [G.out]; rfl, HK.out⟩
end Go.Proofs.YtlhdofkgcbmnnaaGreatDoor
