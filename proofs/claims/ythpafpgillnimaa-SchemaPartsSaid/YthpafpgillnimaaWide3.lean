/- What is proved: what Add and Sub of the great numbers answer where both summands are less than nought and of one word. -/
import Derived.Test.YthpafpgillnimaaWide2
namespace Go.Proofs.Ythpafpgillnimaa
open Go.RowKit Go.Proofs.Heap Go.Proofs.Wide

theorem neg_form (a : Nat) (ha : 0 < a) : WI.form ⟨true, 0, a⟩ = true := by
  unfold WI.form WI.mag
  simp
  omega
theorem normW_neg (a : Nat) (ha : 0 < a) : normW true 0 a = ⟨true, 0, a⟩ := by
  unfold normW
  have : decide (0 * 18446744073709551616 + a ≠ 0) = true := decide_eq_true (by omega)
  rw [this]; rfl

theorem ext_add64 (x y c : Nat) (hc : c ≤ 1) (w : World) :
    (callFunc 77 #[.int .u64 (x : Int), .int .u64 (y : Int), .int .u64 (c : Int)]).run Try.prog w =
      .ok (.value (.tuple #[.int .u64 (((x + y + c) % 18446744073709551616 : Nat) : Int), .int .u64 (((x + y + c) / 18446744073709551616 : Nat) : Int)])) w := by
  rw [run_callFunc_extern Try.func77 (by kernel_rfl) (by kernel_rfl) (by kernel_rfl) (e := add64Entry) (by kernel_rfl), run_add64 x y c (by omega) (by omega) (by omega) (by omega)]
  simp only [Result.andThen]
  congr 5 <;> omega

set_option maxRecDepth 20000 in
set_option maxHeartbeats 1000000 in
theorem w_add_nn (a b : Nat) (ha : 0 < a) (hb : 0 < b) (hab : a + b < 18446744073709551616) (w : World) :
    Calls Try.prog 76 #[WV ⟨true, 0, a⟩, WV ⟨true, 0, b⟩] w fun r w' => r = .returned (.tuple #[WV ⟨true, 0, a + b⟩, .int .i64 0]) ∧ Keep (fun _ => False) w w' := by
  have hk0 : Keep (fun _ => False) w (((w.alloc (.cells (WC ⟨true, 0, a⟩) 63)).alloc (.cells (WC ⟨true, 0, b⟩) 63)).alloc (.cells Z3 63)) := (((Keep.refl (fun _ => False) w).alloc _).alloc _).alloc _
  have hb1 : (((w.alloc (.cells (WC ⟨true, 0, a⟩) 63)).alloc (.cells (WC ⟨true, 0, b⟩) 63)).alloc (.cells Z3 63)).heap[w.heap.size]? = some (.cells (WC ⟨true, 0, a⟩) 63 (0, 0)) := ((((Keep.refl (fun _ => False) _).alloc _).alloc _).get (heap_alloc_new w _) (fun h => h))
  have hb2 : (((w.alloc (.cells (WC ⟨true, 0, a⟩) 63)).alloc (.cells (WC ⟨true, 0, b⟩) 63)).alloc (.cells Z3 63)).heap[w.heap.size + 1]? = some (.cells (WC ⟨true, 0, b⟩) 63 (0, 0)) := by
    have := (((Keep.refl (fun _ => False) ((w.alloc (.cells (WC ⟨true, 0, a⟩) 63)).alloc (.cells (WC ⟨true, 0, b⟩) 63))).alloc (.cells Z3 63)).get (heap_alloc_new (w.alloc (.cells (WC ⟨true, 0, a⟩) 63)) (.cells (WC ⟨true, 0, b⟩) 63)) (fun h => h))
    simpa using this
  have hb3 : (((w.alloc (.cells (WC ⟨true, 0, a⟩) 63)).alloc (.cells (WC ⟨true, 0, b⟩) 63)).alloc (.cells Z3 63)).heap[w.heap.size + 2]? = some (.cells Z3 63 (0, 0)) := by
    have := heap_alloc_new ((w.alloc (.cells (WC ⟨true, 0, a⟩) 63)).alloc (.cells (WC ⟨true, 0, b⟩) 63)) (.cells Z3 63)
    simpa using this
  have HK0 := hid hk0; have HB1 := hid hb1; have HB2 := hid hb2; have HB3 := hid hb3
  clear hk0 hb1 hb2 hb3
  go_enter Try.func76, Try.ntmps76
  go_upto_region 1 with fail
  generalize ((w.alloc (.cells (WC ⟨true, 0, a⟩) 63)).alloc (.cells (WC ⟨true, 0, b⟩) 63)).alloc (.cells Z3 63) = w0 at *
  generalize hsb : w.heap.size = sb at *
  have a0 : w0.cell? ⟨sb, 0, none⟩ = some (.bool true) := cell_of HB1.out (by rfl)
  have a1 : w0.cell? ⟨sb, 1, none⟩ = some (.int .u64 ((0 : Nat) : Int)) := cell_of HB1.out (by rfl)
  have a2 : w0.cell? ⟨sb, 2, none⟩ = some (.int .u64 (a : Int)) := cell_of HB1.out (by rfl)
  have b0 : w0.cell? ⟨sb + 1, 0, none⟩ = some (.bool true) := cell_of HB2.out (by rfl)
  have b1 : w0.cell? ⟨sb + 1, 1, none⟩ = some (.int .u64 ((0 : Nat) : Int)) := cell_of HB2.out (by rfl)
  have b2 : w0.cell? ⟨sb + 1, 2, none⟩ = some (.int .u64 (b : Int)) := cell_of HB2.out (by rfl)
  go_wp2_with fail
  refine (w_check ⟨true, 0, a⟩ ⟨true, 0, b⟩ ⟨(by decide : (0 : Nat) < 18446744073709551616), (by omega : a < 18446744073709551616)⟩ ⟨(by decide : (0 : Nat) < 18446744073709551616), (by omega : b < 18446744073709551616)⟩ (neg_form a ha) (neg_form b hb) _).mono ?_
  rintro r w1 ⟨rfl, hk1⟩
  have HK1 := hid (HK0.out.trans hk1)
  have HB4 := hid (hk1.get HB1.out (fun h => h)); have HB5 := hid (hk1.get HB2.out (fun h => h)); have HB6 := hid (hk1.get HB3.out (fun h => h))
  clear hk1 a0 a1 a2 b0 b1 b2
  have a0 : w1.cell? ⟨sb, 0, none⟩ = some (.bool true) := cell_of HB4.out (by rfl)
  have a1 : w1.cell? ⟨sb, 1, none⟩ = some (.int .u64 ((0 : Nat) : Int)) := cell_of HB4.out (by rfl)
  have a2 : w1.cell? ⟨sb, 2, none⟩ = some (.int .u64 (a : Int)) := cell_of HB4.out (by rfl)
  have b0 : w1.cell? ⟨sb + 1, 0, none⟩ = some (.bool true) := cell_of HB5.out (by rfl)
  have b1 : w1.cell? ⟨sb + 1, 1, none⟩ = some (.int .u64 ((0 : Nat) : Int)) := cell_of HB5.out (by rfl)
  have b2 : w1.cell? ⟨sb + 1, 2, none⟩ = some (.int .u64 (b : Int)) := cell_of HB5.out (by rfl)
  have q1 : (callFunc 77 #[.int .u64 (a : Int), .int .u64 (b : Int), .int .u64 0]).run Try.prog w1 = .ok (.value (.tuple #[.int .u64 ((a + b : Nat) : Int), .int .u64 ((0 : Nat) : Int)])) w1 := by
    have := ext_add64 a b 0 (by omega) w1
    rwa [Nat.add_zero, Nat.mod_eq_of_lt hab, Nat.div_eq_of_lt hab] at this
  have q2 : (callFunc 77 #[.int .u64 0, .int .u64 0, .int .u64 0]).run Try.prog w1 = .ok (.value (.tuple #[.int .u64 ((0 : Nat) : Int), .int .u64 ((0 : Nat) : Int)])) w1 := ext_add64 0 0 0 (by omega) w1
  go_wp2_with fail
  refine (w_fit true 0 (a + b) (by omega) hab _).mono ?_
  rintro r w2 ⟨rfl, hk2⟩
  rw [normW_neg (a + b) (by omega)]
  have HK := hid (HK1.out.trans hk2)
  have HB := hid (hk2.get HB6.out (fun h => h))
  clear hk2 a0 a1 a2 b0 b1 b2 q1 q2
  have c0 := cell_of HB.out (i := 0) (by rfl)
  have c1 := cell_of HB.out (i := 1) (by rfl)
  have c2 := cell_of HB.out (i := 2) (by rfl)
  have f0 := free_of HB.out 0
  have f1 := free_of HB.out 1
  have f2 := free_of HB.out 2
  go_wp2
  (try simp only [Exit.inBlock, Exit.then])
  refine bodyPost_ret (results_ct rfl _ rfl (run_loadVar_row _ (sb + 2) _ 63 _ _ _ (cells3 (.bool true) (.int .u64 ((0 : Nat) : Int)) (.int .u64 ((a + b : Nat) : Int)) HB.out) Try.underlying63 rfl (by kernel_rfl))) rfl ?_
  exact ⟨rfl, ((HK.out.setCell_new (p := ⟨sb + 2, 0, none⟩) (by show _ ≤ sb + 2; omega) _).setCell_new (p := ⟨sb + 2, 1, none⟩) (by show _ ≤ sb + 2; omega) _).setCell_new (p := ⟨sb + 2, 2, none⟩) (by show _ ≤ sb + 2; omega) _⟩
end Go.Proofs.Ythpafpgillnimaa
