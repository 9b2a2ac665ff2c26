/- What is proved: what Least and Fits of the field's layer answer. -/
import Derived.Test.YthpafpgillnimaaWide5
namespace Go.Proofs.Ythpafpgillnimaa
open Go.RowKit Go.Proofs.Heap Go.Proofs.Wide

def leastW (k : Int) : WI := if signK k = true then ⟨true, 0, greatN k + 1⟩ else ⟨false, 0, 0⟩
def greatW (k : Int) : WI := ⟨false, 0, greatN k⟩
theorem greatN_lt (k : Int) : greatN k < 18446744073709551616 := by
  unfold greatN
  repeat' split
  all_goals decide
theorem greatN_sign {k : Int} (h : signK k = true) : 0 < greatN k ∧ greatN k + 1 < 18446744073709551616 := by
  have := of_decide_eq_true h
  have hk : k = 2 ∨ k = 3 ∨ k = 4 ∨ k = 5 := by omega
  rcases hk with rfl | rfl | rfl | rfl <;> decide
theorem greatW_fit (k : Int) : (greatW k).fit := ⟨(by decide : (0 : Nat) < 18446744073709551616), greatN_lt k⟩
theorem leastW_fit (k : Int) : (leastW k).fit := by
  unfold leastW
  cases h : signK k
  · rw [if_neg (by simp)]; exact ⟨(by decide : (0 : Nat) < 18446744073709551616), (by decide : (0 : Nat) < 18446744073709551616)⟩
  · rw [if_pos rfl]; exact ⟨(by decide : (0 : Nat) < 18446744073709551616), (greatN_sign h).2⟩
theorem greatW_form (k : Int) : (greatW k).form = true := pos_form _
theorem leastW_form (k : Int) : (leastW k).form = true := by
  unfold leastW
  cases h : signK k
  · rw [if_neg (by simp)]; exact pos_form 0
  · rw [if_pos rfl]; exact neg_form _ (by omega)

theorem field_sign (s : ByteArray) (z : Int) (g : Bool) (w : World) : (Instr.field 104 (.agg #[.string s, .int .i64 z, .bool g]) 2).run Try.prog w = .ok (.bool g) w := by kernel_rfl

set_option maxRecDepth 20000 in
set_option maxHeartbeats 1000000 in
theorem f_least (k : Int) (h1 : 1 ≤ k) (h2 : k ≤ 10) (w : World) : Calls Try.prog 61 #[.int .i64 k] w fun r w' => r = .returned (WV (leastW k)) ∧ Keep (fun _ => False) w w' := by
  have hb := heap_alloc_new w (.cells Z3 63)
  have hk := (Keep.refl (fun _ => False) w).alloc (.cells Z3 63)
  have HB0 := hid hb; have HK0 := hid hk
  have HS0 := hid (lt_of_heap hb)
  clear hb hk
  go_enter Try.func61, Try.ntmps61
  go_upto_region 1 with fail
  generalize w.alloc (.cells Z3 63) = w0 at *
  generalize hsb : w.heap.size = sb at *
  go_wp2_with fail
  refine (kind_of k _).mono ?_
  rintro r w1 ⟨s, rfl, hk1⟩
  have hfd := field_sign s (sizeK k) (signK k) w1
  have HB1 := hid (hk1.get HB0.out (fun h => h)); have HK1 := hid (HK0.out.trans hk1)
  have HS1 := hid (Nat.lt_of_lt_of_le HS0.out hk1.size)
  clear hk1
  cases hs : signK k
  · rw [hs] at hfd
    have G : Hid (leastW k = ⟨false, 0, 0⟩) := hid (by unfold leastW; rw [hs]; rfl)
    have HB := hid HB1.out; have HK := hid HK1.out
    clear hs
    have c0 := cell_of HB.out (i := 0) (by rfl)
    have c1 := cell_of HB.out (i := 1) (by rfl)
    have c2 := cell_of HB.out (i := 2) (by rfl)
    have f0 := free_of HB.out 0
    have f1 := free_of HB.out 1
    have f2 := free_of HB.out 2
    go_wp2
    (try simp only [Exit.inBlock, Exit.then])
    refine bodyPost_ret (results_c rfl _ rfl (run_loadVar_row _ sb _ 63 _ _ _ (cells3 (.bool false) (.int .u64 0) (.int .u64 0) HB.out) Try.underlying63 rfl (by kernel_rfl))) rfl ?_
    exact ⟨by rw [G.out]; rfl, ((HK.out.setCell_new (p := ⟨sb, 0, none⟩) (by show _ ≤ sb; omega) _).setCell_new (p := ⟨sb, 1, none⟩) (by show _ ≤ sb; omega) _).setCell_new (p := ⟨sb, 2, none⟩) (by show _ ≤ sb; omega) _⟩
  · rw [hs] at hfd
    have hg := greatN_sign hs
    have G : Hid (leastW k = ⟨true, 0, greatN k + 1⟩) := hid (by unfold leastW; rw [hs]; rfl)
    have HGR := hid (fun w => f_great k h1 h2 w)
    clear hs
    generalize greatN k = n at *
    obtain ⟨hg1, hg2⟩ := hg
    go_wp2_with fail
    refine (HGR.out _).mono ?_
    rintro r w2 ⟨rfl, hk2⟩
    have HK2 := hid (HK1.out.trans hk2); have HB2 := hid (hk2.get HB1.out (fun h => h))
    have HS2 := hid (Nat.lt_of_lt_of_le HS1.out hk2.size)
    clear hk2 hfd
    go_wp2_with fail
    refine (w_neg ⟨false, 0, n⟩ ⟨(by decide : (0 : Nat) < 18446744073709551616), (by omega : n < 18446744073709551616)⟩ (pos_form n) _).mono ?_
    rintro r w3 ⟨rfl, hk3⟩
    rw [show normW (!(false : Bool)) 0 n = ⟨true, 0, n⟩ from normW_neg n hg1]
    have HK3 := hid (HK2.out.trans hk3); have HB3 := hid (hk3.get HB2.out (fun h => h))
    have HS3 := hid (Nat.lt_of_lt_of_le HS2.out hk3.size)
    clear hk3
    go_wp2_with fail
    refine (w_of 1 (by decide) _).mono ?_
    rintro r w4 ⟨rfl, hk4⟩
    have HK4 := hid (HK3.out.trans hk4); have HB4 := hid (hk4.get HB3.out (fun h => h))
    have HS4 := hid (Nat.lt_of_lt_of_le HS3.out hk4.size)
    clear hk4
    go_wp2_with fail
    refine (w_sub_nn n 1 hg1 (by decide) hg2 _).mono ?_
    rintro r w5 ⟨rfl, hk5⟩
    obtain ⟨m, hm⟩ : ∃ m, n + 1 = m := ⟨_, rfl⟩
    rw [hm] at G ⊢
    clear hm hg1 hg2
    have hk6 := hk5.alloc (.cells (WC ⟨true, 0, m⟩) 63)
    have HK := hid (HK4.out.trans hk6); have HB := hid (hk6.get HB4.out (fun h => h))
    have HT := hid (heap_alloc_new w5 (.cells (WC ⟨true, 0, m⟩) 63))
    have HS5 := hid (Nat.lt_of_lt_of_le HS4.out hk5.size)
    clear hk5 hk6
    go_upto_region 4 with fail
    generalize w5.alloc (.cells (WC ⟨true, 0, m⟩) 63) = w6 at *
    have hq := HS5.out
    generalize w5.heap.size = q at *
    have e0 : w6.cell? ⟨q, 0, none⟩ = some (.bool true) := cell_of HT.out (by rfl)
    have e1 : w6.cell? ⟨q, 1, none⟩ = some (.int .u64 ((0 : Nat) : Int)) := cell_of HT.out (by rfl)
    have e2 : w6.cell? ⟨q, 2, none⟩ = some (.int .u64 ((m : Nat) : Int)) := cell_of HT.out (by rfl)
    have c0 := cell_of HB.out (i := 0) (by rfl)
    have c1 := cell_of HB.out (i := 1) (by rfl)
    have c2 := cell_of HB.out (i := 2) (by rfl)
    have f0 := free_of HB.out 0
    have f1 := free_of HB.out 1
    have f2 := free_of HB.out 2
    go_wp2
    (try simp only [Exit.inBlock, Exit.then])
    refine bodyPost_ret (results_c rfl _ rfl (run_loadVar_row _ sb _ 63 _ _ _ (cells3 (.bool true) (.int .u64 ((0 : Nat) : Int)) (.int .u64 ((m : Nat) : Int)) HB.out) Try.underlying63 rfl (by kernel_rfl))) rfl ?_
    exact ⟨by rw [G.out], ((HK.out.setCell_new (p := ⟨sb, 0, none⟩) (by show _ ≤ sb; omega) _).setCell_new (p := ⟨sb, 1, none⟩) (by show _ ≤ sb; omega) _).setCell_new (p := ⟨sb, 2, none⟩) (by show _ ≤ sb; omega) _⟩

/-- Whether a number fits a kind. -/
def fitsB (k : Int) (x : WI) : Bool := kindB k && (x.form && (decide (0 ≤ cmpW x (leastW k)) && decide (cmpW x (greatW k) ≤ 0)))

set_option maxRecDepth 20000 in
set_option maxHeartbeats 2000000 in
theorem f_fits (k : Int) (x : WI) (hx : x.fit) (w : World) : Calls Try.prog 52 #[.int .i64 k, WV x] w fun r w' => r = .returned (.bool (fitsB k x)) ∧ Keep (fun _ => False) w w' := by
  have hb := heap_alloc_new w (.cells (WC x) 63)
  have hk := (Keep.refl (fun _ => False) w).alloc (.cells (WC x) 63)
  have HB := hid hb; have HK := hid hk.drew; have HX := hid hx
  clear hb hk hx
  go_enter Try.func52, Try.ntmps52
  go_upto_region 1 with fail
  generalize w.alloc (.cells (WC x) 63) = w0 at *
  generalize hsb : w.heap.size = sb at *
  have HF : Hid (∀ wy, Keep (fun _ => False) w0.drew wy → (wy.cell? ⟨sb, 0, none⟩ = some (.bool x.neg) ∧ wy.cell? ⟨sb, 1, none⟩ = some (.int .u64 (x.hi : Int)) ∧ wy.cell? ⟨sb, 2, none⟩ = some (.int .u64 (x.lo : Int)))) := hid (fun wy hk =>
    ⟨cell_of (hk.get HB.out (fun h => h)) (by rfl), cell_of (hk.get HB.out (fun h => h)) (by rfl), cell_of (hk.get HB.out (fun h => h)) (by rfl)⟩)
  obtain ⟨a0, a1, a2⟩ := HF.out _ (Keep.refl _ _)
  refine Plan.wp_region_pl [(false, 0, []), (true, 1, []), (false, 2, []), (false, 3, []), (true, 4, []), (false, 5, []), (false, 6, []), (false, 7, []), (false, 8, []), (true, 9, [7]), (true, 10, []), (false, 11, []), (false, 12, []), (false, 13, []), (false, 14, []), (false, 15, []), (true, 16, [14]), (true, 17, []), (false, 18, []), (false, 19, []), (false, 20, [])] (by as_aux_lemma => kernel_rfl) (by as_aux_lemma => kernel_rfl) ?_
  repeat (refine Plan.pl_st rfl ?_; go_big_quiet_step (fail); refine wpQuiet_nil ?_)
  refine Plan.pl_ac rfl ?_
  go_wp2_with fail
  refine (is_kind k _).mono ?_
  rintro r w' ⟨rfl, rfl⟩
  cases hkd : kindB k
  · have G : Hid (fitsB k x = false) := hid (by unfold fitsB; rw [hkd]; rfl)
    clear hkd
    go_wp2
    refine Plan.plQ_mk ?_ ?_
    · exact Plan.chk_end
    repeat (refine Plan.pl_st rfl ?_; go_big_quiet_step (fail); refine wpQuiet_nil ?_)
    refine Plan.pl_ac rfl ?_
    go_wp2
    refine Plan.plQ_mk ?_ ?_
    · exact Plan.chk_end
    repeat (refine Plan.pl_st rfl ?_; go_big_quiet_step (fail); refine wpQuiet_nil ?_)
    refine Plan.pl_ac rfl ?_
    go_wp2
    refine Plan.plQ_mk ?_ ?_
    · repeat (refine Plan.chk_st rfl ?_ ?_; focus (go_big_quiet_step (fail); exact wpQuiet_nil rfl))
      exact Plan.chk_end
    repeat (refine Plan.pl_st rfl ?_; go_big_quiet_step (fail); refine wpQuiet_nil ?_)
    refine Plan.pl_ac rfl ?_
    go_wp2
    refine Plan.plQ_mk ?_ ?_
    · exact Plan.chk_end
    repeat (refine Plan.pl_st rfl ?_; go_big_quiet_step (fail); refine wpQuiet_nil ?_)
    refine Plan.pl_ac rfl ?_
    go_wp2
    refine Plan.plQ_mk ?_ ?_
    · repeat (refine Plan.chk_st rfl ?_ ?_; focus (go_big_quiet_step (fail); exact wpQuiet_nil rfl))
      exact Plan.chk_end
    repeat (refine Plan.pl_st rfl ?_; go_big_quiet_step (fail); refine wpQuiet_nil ?_)
    refine Plan.pl_ac rfl ?_
    go_wp2
    refine Plan.plQ_mk ?_ ?_
    · exact Plan.chk_end
    repeat (refine Plan.pl_st rfl ?_; go_big_quiet_step (fail); refine wpQuiet_nil ?_)
    refine Plan.pl_end ?_
    go_wp2
    go_ret
    exact ⟨by rw [G.out]; rfl, HK.out⟩
  go_wp2
  refine Plan.plQ_mk ?_ ?_
  · exact Plan.chk_end
  repeat (refine Plan.pl_st rfl ?_; go_big_quiet_step (fail); refine wpQuiet_nil ?_)
  refine Plan.pl_ac rfl ?_
  go_wp2_with fail
  refine (w_form x HX.out _).mono ?_
  rintro r w1 ⟨rfl, hk1⟩
  have HK1 := hid hk1
  clear hk1 a0 a1 a2
  obtain ⟨a0, a1, a2⟩ := HF.out _ HK1.out
  have hkr : 1 ≤ k ∧ k ≤ 10 := of_decide_eq_true hkd
  cases hfm : x.form
  · have G : Hid (fitsB k x = false) := hid (by unfold fitsB; rw [hfm]; simp)
    clear hkd hfm
    go_wp2
    refine Plan.plQ_mk ?_ ?_
    · exact Plan.chk_end
    repeat (refine Plan.pl_st rfl ?_; go_big_quiet_step (fail); refine wpQuiet_nil ?_)
    refine Plan.pl_ac rfl ?_
    go_wp2
    refine Plan.plQ_mk ?_ ?_
    · repeat (refine Plan.chk_st rfl ?_ ?_; focus (go_big_quiet_step (fail); exact wpQuiet_nil rfl))
      exact Plan.chk_end
    repeat (refine Plan.pl_st rfl ?_; go_big_quiet_step (fail); refine wpQuiet_nil ?_)
    refine Plan.pl_ac rfl ?_
    go_wp2
    refine Plan.plQ_mk ?_ ?_
    · exact Plan.chk_end
    repeat (refine Plan.pl_st rfl ?_; go_big_quiet_step (fail); refine wpQuiet_nil ?_)
    refine Plan.pl_ac rfl ?_
    go_wp2
    refine Plan.plQ_mk ?_ ?_
    · repeat (refine Plan.chk_st rfl ?_ ?_; focus (go_big_quiet_step (fail); exact wpQuiet_nil rfl))
      exact Plan.chk_end
    repeat (refine Plan.pl_st rfl ?_; go_big_quiet_step (fail); refine wpQuiet_nil ?_)
    refine Plan.pl_ac rfl ?_
    go_wp2
    refine Plan.plQ_mk ?_ ?_
    · exact Plan.chk_end
    repeat (refine Plan.pl_st rfl ?_; go_big_quiet_step (fail); refine wpQuiet_nil ?_)
    refine Plan.pl_end ?_
    go_wp2
    go_ret
    exact ⟨by rw [G.out]; rfl, HK.out.trans HK1.out⟩
  go_wp2
  refine Plan.plQ_mk ?_ ?_
  · exact Plan.chk_end
  repeat (refine Plan.pl_st rfl ?_; go_big_quiet_step (fail); refine wpQuiet_nil ?_)
  refine Plan.pl_ac rfl ?_
  go_wp2_with fail
  refine (f_least k hkr.1 hkr.2 _).mono ?_
  rintro r w2 ⟨rfl, hk2⟩
  have HK2 := hid (HK1.out.trans hk2)
  clear hk2 a0 a1 a2
  obtain ⟨a0, a1, a2⟩ := HF.out _ HK2.out
  go_wp2
  refine Plan.plQ_mk ?_ ?_
  · repeat (refine Plan.chk_st rfl ?_ ?_; focus (go_big_quiet_step (fail); exact wpQuiet_nil rfl))
    exact Plan.chk_end
  refine Plan.pl_ac rfl ?_
  go_wp2_with fail
  refine (w_cmp x (leastW k) HX.out (leastW_fit k) _).mono ?_
  rintro r w3 ⟨rfl, hk3⟩
  have HK3 := hid (HK2.out.trans hk3)
  clear hk3 a0 a1 a2
  obtain ⟨a0, a1, a2⟩ := HF.out _ HK3.out
  by_cases hc1 : 0 ≤ cmpW x (leastW k)
  rotate_left
  · have G : Hid (fitsB k x = false) := hid (by unfold fitsB; rw [decide_eq_false hc1]; simp)
    have g1 : decide (0 ≤ cmpW x (leastW k)) = false := decide_eq_false hc1
    generalize cmpW x (leastW k) = z at *
    clear hkd hfm
    go_wp2
    refine Plan.plQ_mk ?_ ?_
    · exact Plan.chk_end
    repeat (refine Plan.pl_st rfl ?_; go_big_quiet_step (fail); refine wpQuiet_nil ?_)
    refine Plan.pl_ac rfl ?_
    go_wp2
    refine Plan.plQ_mk ?_ ?_
    · repeat (refine Plan.chk_st rfl ?_ ?_; focus (go_big_quiet_step (fail); exact wpQuiet_nil rfl))
      exact Plan.chk_end
    repeat (refine Plan.pl_st rfl ?_; go_big_quiet_step (fail); refine wpQuiet_nil ?_)
    refine Plan.pl_ac rfl ?_
    go_wp2
    refine Plan.plQ_mk ?_ ?_
    · exact Plan.chk_end
    repeat (refine Plan.pl_st rfl ?_; go_big_quiet_step (fail); refine wpQuiet_nil ?_)
    refine Plan.pl_end ?_
    go_wp2
    go_ret
    exact ⟨by rw [G.out]; rfl, HK.out.trans HK3.out⟩
  have g1 : decide (0 ≤ cmpW x (leastW k)) = true := decide_eq_true hc1
  have HG : Hid (fitsB k x = decide (cmpW x (greatW k) ≤ 0)) := hid (by unfold fitsB; rw [hkd, hfm, g1]; simp)
  generalize cmpW x (leastW k) = z at *
  clear hkd hfm
  go_wp2
  refine Plan.plQ_mk ?_ ?_
  · exact Plan.chk_end
  repeat (refine Plan.pl_st rfl ?_; go_big_quiet_step (fail); refine wpQuiet_nil ?_)
  refine Plan.pl_ac rfl ?_
  go_wp2_with fail
  refine (f_great k hkr.1 hkr.2 _).mono ?_
  rintro r w4 ⟨rfl, hk4⟩
  have HK4 := hid (HK3.out.trans hk4)
  clear hk4 a0 a1 a2
  obtain ⟨a0, a1, a2⟩ := HF.out _ HK4.out
  go_wp2
  refine Plan.plQ_mk ?_ ?_
  · repeat (refine Plan.chk_st rfl ?_ ?_; focus (go_big_quiet_step (fail); exact wpQuiet_nil rfl))
    exact Plan.chk_end
  refine Plan.pl_ac rfl ?_
  go_wp2_with fail
  refine (w_cmp x (greatW k) HX.out (greatW_fit k) _).mono ?_
  rintro r w5 ⟨rfl, hk5⟩
  have HK5 := hid (HK4.out.trans hk5)
  clear hk5 a0 a1 a2
  generalize hz2 : cmpW x (greatW k) = z2 at *
  have HZ := hid hz2
  clear hz2
  go_wp2
  refine Plan.plQ_mk ?_ ?_
  · exact Plan.chk_end
  repeat (refine Plan.pl_st rfl ?_; go_big_quiet_step (fail); refine wpQuiet_nil ?_)
  refine Plan.pl_end ?_
  go_wp2
  go_ret
  exact ⟨by rw [HG.out]; rfl, HK.out.trans HK5.out⟩
end Go.Proofs.Ythpafpgillnimaa
