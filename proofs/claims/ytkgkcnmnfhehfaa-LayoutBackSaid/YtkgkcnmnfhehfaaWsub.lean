/- What is proved: a number not below nought less one that is not less; a number below nought of an int. -/
import Derived.Test.YtkgkcnmnfhehfaaWide2
import Derived.Shelf.Spec.BitsCarry
namespace Go.Proofs.Ytkgkcnmnfhehfaa
open Go.RowKit Go.Proofs.Heap Go.Proofs.Wide

theorem ext_sub64 (x y c : Nat) (hc : c ≤ 1) (w : World) :
    (callFunc 82 #[.int .u64 (x : Int), .int .u64 (y : Int), .int .u64 (c : Int)]).run Try.prog w =
      .ok (.value (.tuple #[.int .u64 (((x + 18446744073709551616 - y - c) % 18446744073709551616 : Nat) : Int), .int .u64 ((if x < y + c then 1 else 0 : Nat) : Int)])) w := by
  rw [run_callFunc_extern Try.func82 (by kernel_rfl) (by kernel_rfl) (by kernel_rfl) (e := sub64Entry) (by kernel_rfl), run_sub64 x y c hc]
  simp only [Result.andThen]
set_option maxRecDepth 20000 in
set_option maxHeartbeats 8000000 in
theorem w_add_pn (a b : Nat) (hb : 0 < b) (hab : a ≤ b) (hb6 : b < 18446744073709551616) (w : World) :
    Calls Try.prog 76 #[WV ⟨false, 0, a⟩, WV ⟨true, 0, b⟩] w fun r w' => r = .returned (.tuple #[WV (normW true 0 (b - a)), .int .i64 0]) ∧ Keep (fun _ => False) w w' := by
  have hk0 : Keep (fun _ => False) w (((w.alloc (.cells (WC ⟨false, 0, a⟩) 57)).alloc (.cells (WC ⟨true, 0, b⟩) 57)).alloc (.cells Z3 57)) := (((Keep.refl (fun _ => False) w).alloc _).alloc _).alloc _
  have hb1 : (((w.alloc (.cells (WC ⟨false, 0, a⟩) 57)).alloc (.cells (WC ⟨true, 0, b⟩) 57)).alloc (.cells Z3 57)).heap[w.heap.size]? = some (.cells (WC ⟨false, 0, a⟩) 57 (0, 0)) := ((((Keep.refl (fun _ => False) _).alloc _).alloc _).get (heap_alloc_new w _) (fun h => h))
  have hb2 : (((w.alloc (.cells (WC ⟨false, 0, a⟩) 57)).alloc (.cells (WC ⟨true, 0, b⟩) 57)).alloc (.cells Z3 57)).heap[w.heap.size + 1]? = some (.cells (WC ⟨true, 0, b⟩) 57 (0, 0)) := by
    have := (((Keep.refl (fun _ => False) ((w.alloc (.cells (WC ⟨false, 0, a⟩) 57)).alloc (.cells (WC ⟨true, 0, b⟩) 57))).alloc (.cells Z3 57)).get (heap_alloc_new (w.alloc (.cells (WC ⟨false, 0, a⟩) 57)) (.cells (WC ⟨true, 0, b⟩) 57)) (fun h => h))
    simpa using this
  have hb3 : (((w.alloc (.cells (WC ⟨false, 0, a⟩) 57)).alloc (.cells (WC ⟨true, 0, b⟩) 57)).alloc (.cells Z3 57)).heap[w.heap.size + 2]? = some (.cells Z3 57 (0, 0)) := by
    have := heap_alloc_new ((w.alloc (.cells (WC ⟨false, 0, a⟩) 57)).alloc (.cells (WC ⟨true, 0, b⟩) 57)) (.cells Z3 57)
    simpa using this
  have HK0 := hid hk0; have HB1 := hid hb1; have HB2 := hid hb2; have HB3 := hid hb3
  clear hk0 hb1 hb2 hb3
  go_enter Try.func76, Try.ntmps76
  go_upto_region 1 with fail
  generalize (((w.alloc (.cells (WC ⟨false, 0, a⟩) 57)).alloc (.cells (WC ⟨true, 0, b⟩) 57)).alloc (.cells Z3 57)) = w0 at *
  generalize hsb : w.heap.size = sb at *
  have HSB := hid hsb
  clear hsb
  have a0 : w0.cell? ⟨sb, 0, none⟩ = some (.bool false) := cell_of HB1.out (by rfl)
  have a1 : w0.cell? ⟨sb, 1, none⟩ = some (.int .u64 ((0 : Nat) : Int)) := cell_of HB1.out (by rfl)
  have a2 : w0.cell? ⟨sb, 2, none⟩ = some (.int .u64 (a : Int)) := cell_of HB1.out (by rfl)
  have b0 : w0.cell? ⟨sb + 1, 0, none⟩ = some (.bool true) := cell_of HB2.out (by rfl)
  have b1 : w0.cell? ⟨sb + 1, 1, none⟩ = some (.int .u64 ((0 : Nat) : Int)) := cell_of HB2.out (by rfl)
  have b2 : w0.cell? ⟨sb + 1, 2, none⟩ = some (.int .u64 (b : Int)) := cell_of HB2.out (by rfl)
  have fta : WI.fit ⟨false, 0, a⟩ := ⟨(by decide : (0 : Nat) < 18446744073709551616), (by omega : a < 18446744073709551616)⟩
  have ftb : WI.fit ⟨true, 0, b⟩ := ⟨(by decide : (0 : Nat) < 18446744073709551616), (by omega : b < 18446744073709551616)⟩
  have FTA := hid fta; have FTB := hid ftb
  clear fta ftb
  go_wp2_with fail
  refine (w_check ⟨false, 0, a⟩ ⟨true, 0, b⟩ FTA.out FTB.out (pos_form a) (neg_form b hb) _).mono ?_
  rintro r w1 ⟨rfl, hk1⟩
  have HK1 := hid (HK0.out.trans hk1)
  have HB4 := hid (hk1.get HB1.out (fun h => h)); have HB5 := hid (hk1.get HB2.out (fun h => h)); have HB6 := hid (hk1.get HB3.out (fun h => h))
  clear hk1 a0 a1 a2 b0 b1 b2
  have a0 : w1.cell? ⟨sb, 0, none⟩ = some (.bool false) := cell_of HB4.out (by rfl)
  have a1 : w1.cell? ⟨sb, 1, none⟩ = some (.int .u64 ((0 : Nat) : Int)) := cell_of HB4.out (by rfl)
  have a2 : w1.cell? ⟨sb, 2, none⟩ = some (.int .u64 (a : Int)) := cell_of HB4.out (by rfl)
  have b0 : w1.cell? ⟨sb + 1, 0, none⟩ = some (.bool true) := cell_of HB5.out (by rfl)
  have b1 : w1.cell? ⟨sb + 1, 1, none⟩ = some (.int .u64 ((0 : Nat) : Int)) := cell_of HB5.out (by rfl)
  have b2 : w1.cell? ⟨sb + 1, 2, none⟩ = some (.int .u64 (b : Int)) := cell_of HB5.out (by rfl)
  go_wp2_with fail
  refine (w_size ⟨false, 0, a⟩ ⟨true, 0, b⟩ FTA.out FTB.out _).mono ?_
  rintro r w2 ⟨rfl, hk2⟩
  have HK2 := hid (HK1.out.trans hk2)
  have HB7 := hid (hk2.get HB4.out (fun h => h)); have HB8 := hid (hk2.get HB5.out (fun h => h)); have HB9 := hid (hk2.get HB6.out (fun h => h))
  clear hk2 a0 a1 a2 b0 b1 b2
  have a0 : w2.cell? ⟨sb, 0, none⟩ = some (.bool false) := cell_of HB7.out (by rfl)
  have a1 : w2.cell? ⟨sb, 1, none⟩ = some (.int .u64 ((0 : Nat) : Int)) := cell_of HB7.out (by rfl)
  have a2 : w2.cell? ⟨sb, 2, none⟩ = some (.int .u64 (a : Int)) := cell_of HB7.out (by rfl)
  have b0 : w2.cell? ⟨sb + 1, 0, none⟩ = some (.bool true) := cell_of HB8.out (by rfl)
  have b1 : w2.cell? ⟨sb + 1, 1, none⟩ = some (.int .u64 ((0 : Nat) : Int)) := cell_of HB8.out (by rfl)
  have b2 : w2.cell? ⟨sb + 1, 2, none⟩ = some (.int .u64 (b : Int)) := cell_of HB8.out (by rfl)
  have fa := fun i => free_of HB7.out i
  have fb := fun i => free_of HB8.out i
  have fa0 := fa 0; have fa1 := fa 1; have fa2 := fa 2; have fb0 := fb 0; have fb1 := fb 1; have fb2 := fb 2
  clear fa fb
  by_cases hlt : a < b
  · have hc : cmpN (WI.mag ⟨false, 0, a⟩) (WI.mag ⟨true, 0, b⟩) = -1 := by
      unfold cmpN WI.mag
      simp only [Nat.zero_mul, Nat.zero_add]
      rw [if_neg (by omega), if_neg (by omega)]
    rw [hc]
    clear hc
    have q1 : ∀ wz, (callFunc 82 #[.int .u64 (b : Int), .int .u64 (a : Int), .int .u64 0]).run Try.prog wz = .ok (.value (.tuple #[.int .u64 ((b - a : Nat) : Int), .int .u64 ((0 : Nat) : Int)])) wz := by
      intro wz
      have := ext_sub64 b a 0 (by omega) wz
      rwa [show (b + 18446744073709551616 - a - 0) % 18446744073709551616 = b - a by omega, if_neg (by omega)] at this
    have q2 : ∀ wz, (callFunc 82 #[.int .u64 0, .int .u64 0, .int .u64 0]).run Try.prog wz = .ok (.value (.tuple #[.int .u64 ((0 : Nat) : Int), .int .u64 ((0 : Nat) : Int)])) wz := fun wz => ext_sub64 0 0 0 (by omega) wz
    obtain ⟨d, hd⟩ : ∃ d, b - a = d := ⟨_, rfl⟩
    have HD := hid hd
    rw [hd] at q1
    have hd6 : d < 18446744073709551616 := by omega
    clear hd hlt hab
    go_wp2_with (first | rw [q2] | rw [q1])
    refine (w_fit true 0 d (by omega) hd6 _).mono ?_
    rintro r w3 ⟨rfl, hk3⟩
    have HKC := hid ((((((((Keep.refl (fun g => g = sb ∨ g = sb + 1) w2).setCell (p := ⟨sb, 0, none⟩) (.inl rfl) _).setCell (p := ⟨sb, 1, none⟩) (.inl rfl) _).setCell (p := ⟨sb, 2, none⟩) (.inl rfl) _).setCell (p := ⟨sb + 1, 0, none⟩) (.inr rfl) _).setCell (p := ⟨sb + 1, 1, none⟩) (.inr rfl) _).setCell (p := ⟨sb + 1, 2, none⟩) (.inr rfl) _).trans (hk3.mono (fun _ _ h => h.elim)))
    clear hk3
    have HK := hid (keep_new HK2.out HKC.out (fun g hg => by have := HSB.out; rcases hg with rfl | rfl <;> omega))
    have HB := hid (HKC.out.get HB9.out (by simp))
    have HZ : Hid (normW true 0 d = normW true 0 (b - a)) := hid (by rw [HD.out])
    clear HKC
    generalize normW true 0 d = z at *
    clear a0 a1 a2 b0 b1 b2 fa0 fa1 fa2 fb0 fb1 fb2 q1 q2
    have c0 := cell_of HB.out (i := 0) (by rfl)
    have c1 := cell_of HB.out (i := 1) (by rfl)
    have c2 := cell_of HB.out (i := 2) (by rfl)
    have f0 := free_of HB.out 0
    have f1 := free_of HB.out 1
    have f2 := free_of HB.out 2
    go_wp2
    (try simp only [Exit.inBlock, Exit.then])
    refine bodyPost_ret (results_ct rfl _ rfl (run_loadVar_row _ (sb + 2) _ 57 _ _ _ (cells3 (.bool z.neg) (.int .u64 (z.hi : Int)) (.int .u64 (z.lo : Int)) HB.out) Try.underlying57 rfl (by kernel_rfl))) rfl ?_
    exact ⟨by rw [← HZ.out]; rfl, ((HK.out.setCell_new (p := ⟨sb + 2, 0, none⟩) (by have := HSB.out; show _ ≤ sb + 2; omega) _).setCell_new (p := ⟨sb + 2, 1, none⟩) (by have := HSB.out; show _ ≤ sb + 2; omega) _).setCell_new (p := ⟨sb + 2, 2, none⟩) (by have := HSB.out; show _ ≤ sb + 2; omega) _⟩
  have hba : b = a := by omega
  subst hba
  have hc : cmpN (WI.mag ⟨false, 0, b⟩) (WI.mag ⟨true, 0, b⟩) = 0 := by
    simp [cmpN, WI.mag]
  rw [hc]
  clear hc
  have q1 : ∀ wz, (callFunc 82 #[.int .u64 (b : Int), .int .u64 (b : Int), .int .u64 0]).run Try.prog wz = .ok (.value (.tuple #[.int .u64 ((0 : Nat) : Int), .int .u64 ((0 : Nat) : Int)])) wz := by
    intro wz
    have := ext_sub64 b b 0 (by omega) wz
    rwa [show (b + 18446744073709551616 - b - 0) % 18446744073709551616 = 0 by omega, if_neg (by omega)] at this
  have q2 : ∀ wz, (callFunc 82 #[.int .u64 0, .int .u64 0, .int .u64 0]).run Try.prog wz = .ok (.value (.tuple #[.int .u64 ((0 : Nat) : Int), .int .u64 ((0 : Nat) : Int)])) wz := fun wz => ext_sub64 0 0 0 (by omega) wz
  go_wp2_with (first | rw [q2] | rw [q1])
  refine (w_fit false 0 0 (by omega) (by omega) _).mono ?_
  rintro r w3 ⟨rfl, hk3⟩
  have HK := hid (HK2.out.trans hk3)
  have HB := hid (hk3.get HB9.out (fun h => h))
  have HZ : Hid (normW false 0 0 = normW true 0 (b - b)) := hid (by rw [Nat.sub_self]; rfl)
  clear hk3
  generalize normW false 0 0 = z at *
  clear a0 a1 a2 b0 b1 b2 fa0 fa1 fa2 fb0 fb1 fb2 q1 q2
  have c0 := cell_of HB.out (i := 0) (by rfl)
  have c1 := cell_of HB.out (i := 1) (by rfl)
  have c2 := cell_of HB.out (i := 2) (by rfl)
  have f0 := free_of HB.out 0
  have f1 := free_of HB.out 1
  have f2 := free_of HB.out 2
  go_wp2
  (try simp only [Exit.inBlock, Exit.then])
  refine bodyPost_ret (results_ct rfl _ rfl (run_loadVar_row _ (sb + 2) _ 57 _ _ _ (cells3 (.bool z.neg) (.int .u64 (z.hi : Int)) (.int .u64 (z.lo : Int)) HB.out) Try.underlying57 rfl (by kernel_rfl))) rfl ?_
  exact ⟨by rw [← HZ.out]; rfl, ((HK.out.setCell_new (p := ⟨sb + 2, 0, none⟩) (by have := HSB.out; show _ ≤ sb + 2; omega) _).setCell_new (p := ⟨sb + 2, 1, none⟩) (by have := HSB.out; show _ ≤ sb + 2; omega) _).setCell_new (p := ⟨sb + 2, 2, none⟩) (by have := HSB.out; show _ ≤ sb + 2; omega) _⟩
set_option maxRecDepth 20000 in
set_option maxHeartbeats 8000000 in
theorem w_sub_pp (a b : Nat) (hb : 0 < b) (hab : a ≤ b) (hb6 : b < 18446744073709551616) (w : World) :
    Calls Try.prog 60 #[WV ⟨false, 0, a⟩, WV ⟨false, 0, b⟩] w fun r w' => r = .returned (.tuple #[WV (normW true 0 (b - a)), .int .i64 0]) ∧ Keep (fun _ => False) w w' := by
  have hk0 : Keep (fun _ => False) w (((w.alloc (.cells (WC ⟨false, 0, a⟩) 57)).alloc (.cells (WC ⟨false, 0, b⟩) 57)).alloc (.cells Z3 57)) := (((Keep.refl (fun _ => False) w).alloc _).alloc _).alloc _
  have hb1 : (((w.alloc (.cells (WC ⟨false, 0, a⟩) 57)).alloc (.cells (WC ⟨false, 0, b⟩) 57)).alloc (.cells Z3 57)).heap[w.heap.size]? = some (.cells (WC ⟨false, 0, a⟩) 57 (0, 0)) := ((((Keep.refl (fun _ => False) _).alloc _).alloc _).get (heap_alloc_new w _) (fun h => h))
  have hb2 : (((w.alloc (.cells (WC ⟨false, 0, a⟩) 57)).alloc (.cells (WC ⟨false, 0, b⟩) 57)).alloc (.cells Z3 57)).heap[w.heap.size + 1]? = some (.cells (WC ⟨false, 0, b⟩) 57 (0, 0)) := by
    have := (((Keep.refl (fun _ => False) ((w.alloc (.cells (WC ⟨false, 0, a⟩) 57)).alloc (.cells (WC ⟨false, 0, b⟩) 57))).alloc (.cells Z3 57)).get (heap_alloc_new (w.alloc (.cells (WC ⟨false, 0, a⟩) 57)) (.cells (WC ⟨false, 0, b⟩) 57)) (fun h => h))
    simpa using this
  have hb3 : (((w.alloc (.cells (WC ⟨false, 0, a⟩) 57)).alloc (.cells (WC ⟨false, 0, b⟩) 57)).alloc (.cells Z3 57)).heap[w.heap.size + 2]? = some (.cells Z3 57 (0, 0)) := by
    have := heap_alloc_new ((w.alloc (.cells (WC ⟨false, 0, a⟩) 57)).alloc (.cells (WC ⟨false, 0, b⟩) 57)) (.cells Z3 57)
    simpa using this
  have HK0 := hid hk0; have HB1 := hid hb1; have HB2 := hid hb2; have HB3 := hid hb3
  clear hk0 hb1 hb2 hb3
  go_enter Try.func60, Try.ntmps60
  go_upto_region 1 with fail
  generalize (((w.alloc (.cells (WC ⟨false, 0, a⟩) 57)).alloc (.cells (WC ⟨false, 0, b⟩) 57)).alloc (.cells Z3 57)) = w0 at *
  generalize hsb : w.heap.size = sb at *
  have HSB := hid hsb
  clear hsb
  have a0 : w0.cell? ⟨sb, 0, none⟩ = some (.bool false) := cell_of HB1.out (by rfl)
  have a1 : w0.cell? ⟨sb, 1, none⟩ = some (.int .u64 ((0 : Nat) : Int)) := cell_of HB1.out (by rfl)
  have a2 : w0.cell? ⟨sb, 2, none⟩ = some (.int .u64 (a : Int)) := cell_of HB1.out (by rfl)
  have b0 : w0.cell? ⟨sb + 1, 0, none⟩ = some (.bool false) := cell_of HB2.out (by rfl)
  have b1 : w0.cell? ⟨sb + 1, 1, none⟩ = some (.int .u64 ((0 : Nat) : Int)) := cell_of HB2.out (by rfl)
  have b2 : w0.cell? ⟨sb + 1, 2, none⟩ = some (.int .u64 (b : Int)) := cell_of HB2.out (by rfl)
  have fta : WI.fit ⟨false, 0, a⟩ := ⟨(by decide : (0 : Nat) < 18446744073709551616), (by omega : a < 18446744073709551616)⟩
  have ftb : WI.fit ⟨false, 0, b⟩ := ⟨(by decide : (0 : Nat) < 18446744073709551616), (by omega : b < 18446744073709551616)⟩
  have FTA := hid fta; have FTB := hid ftb
  clear fta ftb
  go_wp2_with fail
  refine (w_check ⟨false, 0, a⟩ ⟨false, 0, b⟩ FTA.out FTB.out (pos_form a) (pos_form b) _).mono ?_
  rintro r w1 ⟨rfl, hk1⟩
  have HK1 := hid (HK0.out.trans hk1).drew
  have HB4 := hid (hk1.drew.get HB1.out (fun h => h)); have HB5 := hid (hk1.drew.get HB2.out (fun h => h)); have HB6 := hid (hk1.drew.get HB3.out (fun h => h))
  clear hk1 a0 a1 a2 b0 b1 b2
  have a0 : w1.drew.cell? ⟨sb, 0, none⟩ = some (.bool false) := cell_of HB4.out (by rfl)
  have a1 : w1.drew.cell? ⟨sb, 1, none⟩ = some (.int .u64 ((0 : Nat) : Int)) := cell_of HB4.out (by rfl)
  have a2 : w1.drew.cell? ⟨sb, 2, none⟩ = some (.int .u64 (a : Int)) := cell_of HB4.out (by rfl)
  have b0 : w1.drew.cell? ⟨sb + 1, 0, none⟩ = some (.bool false) := cell_of HB5.out (by rfl)
  have b1 : w1.drew.cell? ⟨sb + 1, 1, none⟩ = some (.int .u64 ((0 : Nat) : Int)) := cell_of HB5.out (by rfl)
  have b2 : w1.drew.cell? ⟨sb + 1, 2, none⟩ = some (.int .u64 (b : Int)) := cell_of HB5.out (by rfl)
  go_wp2_with fail
  refine Plan.wp_region_pl [(false, 0, []), (false, 1, []), (true, 2, [0]), (true, 3, []), (false, 4, []), (false, 5, []), (true, 6, []), (false, 7, [])] (by kernel_rfl) (by kernel_rfl) ?_
  repeat (refine Plan.pl_st rfl ?_; go_big_quiet_step (fail); refine wpQuiet_nil ?_)
  refine Plan.pl_ac rfl ?_
  go_wp2_with fail
  refine (w_neg ⟨false, 0, b⟩ FTB.out (pos_form b) _).mono ?_
  rintro r w2 ⟨rfl, hk2⟩
  rw [show normW (!(false : Bool)) 0 b = ⟨true, 0, b⟩ from normW_neg b hb]
  have HK2 := hid (HK1.out.trans hk2)
  have HB7 := hid (hk2.get HB4.out (fun h => h)); have HB8 := hid (hk2.get HB5.out (fun h => h)); have HB9 := hid (hk2.get HB6.out (fun h => h))
  clear hk2 a0 a1 a2 b0 b1 b2
  have a0 : w2.cell? ⟨sb, 0, none⟩ = some (.bool false) := cell_of HB7.out (by rfl)
  have a1 : w2.cell? ⟨sb, 1, none⟩ = some (.int .u64 ((0 : Nat) : Int)) := cell_of HB7.out (by rfl)
  have a2 : w2.cell? ⟨sb, 2, none⟩ = some (.int .u64 (a : Int)) := cell_of HB7.out (by rfl)
  have b0 : w2.cell? ⟨sb + 1, 0, none⟩ = some (.bool false) := cell_of HB8.out (by rfl)
  have b1 : w2.cell? ⟨sb + 1, 1, none⟩ = some (.int .u64 ((0 : Nat) : Int)) := cell_of HB8.out (by rfl)
  have b2 : w2.cell? ⟨sb + 1, 2, none⟩ = some (.int .u64 (b : Int)) := cell_of HB8.out (by rfl)
  go_wp2
  refine Plan.plQ_mk ?_ ?_
  · repeat (refine Plan.chk_st rfl ?_ ?_; focus (go_big_quiet_step (fail); exact wpQuiet_nil rfl))
    exact Plan.chk_end
  refine Plan.pl_ac rfl ?_
  go_wp2_with fail
  refine (w_add_pn a b hb hab hb6 _).mono ?_
  rintro r w3 ⟨rfl, hk3⟩
  have HK := hid (HK2.out.trans hk3)
  have HB := hid (hk3.get HB9.out (fun h => h))
  clear hk3 a0 a1 a2 b0 b1 b2
  obtain ⟨z, hz⟩ : ∃ z, normW true 0 (b - a) = z := ⟨_, rfl⟩
  rw [hz]
  have HZ := hid hz
  clear hz
  have c0 := cell_of HB.out (i := 0) (by rfl)
  have c1 := cell_of HB.out (i := 1) (by rfl)
  have c2 := cell_of HB.out (i := 2) (by rfl)
  have f0 := free_of HB.out 0
  have f1 := free_of HB.out 1
  have f2 := free_of HB.out 2
  go_wp2
  refine Plan.plQ_mk ?_ ?_
  · exact Plan.chk_end
  repeat (refine Plan.pl_st rfl ?_; go_big_quiet_step (fail); refine wpQuiet_nil ?_)
  refine Plan.pl_ac rfl ?_
  go_wp2
  refine Plan.plQ_mk ?_ ?_
  · exact Plan.chk_end
  repeat (refine Plan.pl_st rfl ?_; go_big_quiet_step (fail); refine wpQuiet_nil ?_)
  refine Plan.pl_end ?_
  go_wp2
  (try simp only [Exit.inBlock, Exit.then])
  refine bodyPost_ret (results_ct rfl _ rfl (run_loadVar_row _ (sb + 2) _ 57 _ _ _ (cells3 (.bool z.neg) (.int .u64 (z.hi : Int)) (.int .u64 (z.lo : Int)) HB.out) Try.underlying57 rfl (by kernel_rfl))) rfl ?_
  exact ⟨by rw [HZ.out]; rfl, ((HK.out.setCell_new (p := ⟨sb + 2, 0, none⟩) (by have := HSB.out; show _ ≤ sb + 2; omega) _).setCell_new (p := ⟨sb + 2, 1, none⟩) (by have := HSB.out; show _ ≤ sb + 2; omega) _).setCell_new (p := ⟨sb + 2, 2, none⟩) (by have := HSB.out; show _ ≤ sb + 2; omega) _⟩

end Go.Proofs.Ytkgkcnmnfhehfaa
