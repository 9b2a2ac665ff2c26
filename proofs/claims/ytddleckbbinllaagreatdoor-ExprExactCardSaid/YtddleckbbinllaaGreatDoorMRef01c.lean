/- What is proved: what the reference's Cmp answers, at numbers in form. -/
import Derived.Test.YtddleckbbinllaaGreatDoorMExAwake
namespace Go.Proofs.YtddleckbbinllaaGreatDoor
open Go.RowKit Go.Proofs.Heap Go.Proofs.Wide

theorem mag_small {x : WI} (h : x.fit) : x.mag < 256 ^ 40 := by
  have h1 := h.1
  have h2 := h.2
  unfold WI.mag
  exact Nat.lt_of_lt_of_le (show _ < 256 ^ 16 by omega) (Nat.pow_le_pow_right (by decide) (by decide))
theorem form_neg {x : WI} (h : x.form = true) (hn : x.neg = true) : x.mag ≠ 0 := by
  unfold WI.form at h
  rw [hn] at h
  simp at h
  exact h.2
theorem cmpW_form {x y : WI} (hx : x.form = true) (hy : y.form = true) : cmpW x y = cmpI x.val y.val := by unfold cmpW; rw [if_pos ⟨hx, hy⟩]
theorem val_pos {x : WI} (h : x.neg = false) : x.val = (x.mag : Int) := by unfold WI.val; rw [h]; rfl
theorem val_neg {x : WI} (h : x.neg = true) : x.val = -(x.mag : Int) := by unfold WI.val; rw [if_pos h]
theorem cmpI_nat (a b : Nat) : cmpI (a : Int) (b : Int) = cmpN a b := by
  unfold cmpI cmpN
  by_cases h : b < a
  · rw [if_pos h, if_pos (by omega)]
  · rw [if_neg h, if_neg (by omega)]
    by_cases h2 : a = b
    · rw [if_pos h2, if_pos (by omega)]
    · rw [if_neg h2, if_neg (by omega)]
theorem cmpI_neg (a b : Nat) : cmpI (-(a : Int)) (-(b : Int)) = -cmpN a b := by
  unfold cmpI cmpN
  by_cases h : b < a
  · rw [if_pos h, if_neg (by omega), if_neg (by omega)]
  · rw [if_neg h]
    by_cases h2 : a = b
    · rw [if_pos h2, if_neg (by omega), if_pos (by omega)]; rfl
    · rw [if_neg h2, if_pos (by omega)]; rfl
theorem cmpN_three (a b : Nat) : cmpN a b = 1 ∨ cmpN a b = 0 ∨ cmpN a b = -1 := by
  unfold cmpN
  by_cases h : b < a
  · rw [if_pos h]; exact .inl rfl
  · rw [if_neg h]
    by_cases h2 : a = b
    · rw [if_pos h2]; exact .inr (.inl rfl)
    · rw [if_neg h2]; exact .inr (.inr rfl)

set_option maxRecDepth 20000 in
set_option maxHeartbeats 2000000 in
theorem r_cmp (x y : WI) (hx : x.fit) (hy : y.fit) (hxf : x.form = true) (hyf : y.form = true) (w : World) : Calls Tryz.prog 130 #[WV x, WV y] w fun r w' => r = .returned (.int .i64 (cmpW x y)) ∧ Keep (fun _ => False) w w' := by
  rw [cmpW_form hxf hyf]
  have HXF := hid hx; have HYF := hid hy
  have HXN := hid (fun h => form_neg hxf h : x.neg = true → x.mag ≠ 0)
  have HYN := hid (fun h => form_neg hyf h : y.neg = true → y.mag ≠ 0)
  have HXM := hid (mag_small hx); have HYM := hid (mag_small hy)
  clear hx hy hxf hyf
  have hb1 := heap_alloc_new w (.cells (WC x) 30)
  have hb2 := heap_alloc_new (w.alloc (.cells (WC x) 30)) (.cells (WC y) 30)
  have e1 : (w.alloc (.cells (WC x) 30)).heap.size = w.heap.size + 1 := by simp
  have hb1' := ((Keep.refl (fun _ => False) (w.alloc (.cells (WC x) 30))).alloc (.cells (WC y) 30)).get hb1 id
  rw [e1] at hb2
  have HK := hid (((Keep.refl (fun _ => False) w).alloc (.cells (WC x) 30)).alloc (.cells (WC y) 30))
  have HA := hid hb1'; have HB := hid hb2
  clear hb1 hb2 hb1' e1
  obtain ⟨xn, xh, xl⟩ := x
  obtain ⟨yn, yh, yl⟩ := y
  go_enter Tryz.func130, Tryz.ntmps130
  go_upto_region 1 with fail
  generalize (w.alloc (.cells #[.bool xn, .int .u64 (xh : Int), .int .u64 (xl : Int)] 30)).alloc (.cells #[.bool yn, .int .u64 (yh : Int), .int .u64 (yl : Int)] 30) = w1 at *
  generalize w.heap.size = sb at *
  have HW : Hid (∀ wy, Keep (fun _ => False) w1 wy → wy.cell? ⟨sb, 0, none⟩ = some (.bool xn) ∧ wy.cell? ⟨sb, 1, none⟩ = some (.int .u64 (xh : Int)) ∧ wy.cell? ⟨sb, 2, none⟩ = some (.int .u64 (xl : Int)) ∧ wy.cell? ⟨sb + 1, 0, none⟩ = some (.bool yn) ∧ wy.cell? ⟨sb + 1, 1, none⟩ = some (.int .u64 (yh : Int)) ∧ wy.cell? ⟨sb + 1, 2, none⟩ = some (.int .u64 (yl : Int))) := hid (fun wy hk =>
    ⟨cell_of (hk.get HA.out id) (by rfl), cell_of (hk.get HA.out id) (by rfl), cell_of (hk.get HA.out id) (by rfl), cell_of (hk.get HB.out id) (by rfl), cell_of (hk.get HB.out id) (by rfl), cell_of (hk.get HB.out id) (by rfl)⟩)
  obtain ⟨s0, s1, s2, s3, s4, s5⟩ := HW.out _ (Keep.refl _ _)
  by_cases hd : xn = yn
  rotate_left
  · cases xn <;> cases yn
    · exact absurd rfl hd
    · have G : Hid (cmpI (WI.val ⟨false, xh, xl⟩) (WI.val ⟨true, yh, yl⟩) = 1) := hid (by
        have h := HYN.out rfl
        rw [val_pos rfl, val_neg rfl]; unfold cmpI; rw [if_pos (by omega)])
      go_wp2
      go_ret
      exact ⟨by rw [G.out]; rfl, HK.out⟩
    · have G : Hid (cmpI (WI.val ⟨true, xh, xl⟩) (WI.val ⟨false, yh, yl⟩) = -1) := hid (by
        have h := HXN.out rfl
        rw [val_neg rfl, val_pos rfl]; unfold cmpI; rw [if_neg (by omega), if_neg (by omega)])
      go_wp2
      go_ret
      exact ⟨by rw [G.out]; rfl, HK.out⟩
    · exact absurd rfl hd
  subst hd
  have g1 : (xn != xn) = false := by simp
  clear s0 s1 s2 s3 s4 s5
  obtain ⟨t0, t1, t2, t3, t4, t5⟩ := HW.out _ (Keep.refl (fun _ => False) w1)
  obtain ⟨s0, s1, s2, s3, s4, s5⟩ := HW.out _ (Keep.refl (fun _ => False) w1).drew
  go_wp2_with fail
  clear t0 t1 t2 t3 t4 t5
  refine Plan.wp_region_pl [(false, 0, []), (false, 2, []), (true, 1, [2]), (true, 3, []), (true, 4, []), (false, 5, [])] (by kernel_rfl) (by kernel_rfl) ?_
  iterate 2 (refine Plan.pl_st rfl ?_; go_big_quiet_step (fail); refine wpQuiet_nil ?_)
  refine Plan.pl_ac rfl ?_
  go_wp2_with fail
  refine (r_from ⟨xn, xh, xl⟩ HXF.out _).mono ?_
  rintro r w2 ⟨rfl, hk2⟩
  have HK2 := hid ((Keep.refl (fun _ => False) w1).drew.trans hk2)
  clear hk2 s0 s1 s2 s3 s4 s5
  obtain ⟨s0, s1, s2, s3, s4, s5⟩ := HW.out _ HK2.out
  go_wp2
  refine Plan.plQ_mk ?_ ?_
  · iterate 1 (refine Plan.chk_st rfl ?_ ?_; focus (go_big_quiet_step (fail); exact wpQuiet_nil rfl))
    exact Plan.chk_end
  refine Plan.pl_ac rfl ?_
  go_wp2_with fail
  refine (r_from ⟨xn, yh, yl⟩ HYF.out _).mono ?_
  rintro r w3 ⟨rfl, hk3⟩
  have HK3 := hid (HK2.out.trans hk3)
  clear hk3 s0 s1 s2 s3 s4 s5
  go_wp2
  refine Plan.plQ_mk Plan.chk_end ?_
  refine Plan.pl_ac rfl ?_
  go_wp2_with fail
  refine (r_size _ _ _ _ HXM.out HYM.out _).mono ?_
  rintro r w4 ⟨rfl, hk4⟩
  have HK4 := hid (HK3.out.trans hk4)
  clear hk4
  go_wp2
  refine Plan.plQ_mk Plan.chk_end ?_
  iterate 1 (refine Plan.pl_st rfl ?_; go_big_quiet_step (fail); refine wpQuiet_nil ?_)
  refine Plan.pl_end ?_
  obtain ⟨s0, s1, s2, s3, s4, s5⟩ := HW.out _ HK4.out
  cases xn
  · have G : Hid (cmpI (WI.val ⟨false, xh, xl⟩) (WI.val ⟨false, yh, yl⟩) = cmpN (WI.mag ⟨false, xh, xl⟩) (WI.mag ⟨false, yh, yl⟩)) := hid (by rw [val_pos rfl, val_pos rfl, cmpI_nat])
    generalize cmpN (WI.mag ⟨false, xh, xl⟩) (WI.mag ⟨false, yh, yl⟩) = z at *
    go_wp2
    go_ret
    exact ⟨by rw [G.out]; rfl, HK.out.trans HK4.out⟩
  · have G : Hid (cmpI (WI.val ⟨true, xh, xl⟩) (WI.val ⟨true, yh, yl⟩) = -cmpN (WI.mag ⟨true, xh, xl⟩) (WI.mag ⟨true, yh, yl⟩)) := hid (by rw [val_neg rfl, val_neg rfl, cmpI_neg])
    have h3 := cmpN_three (WI.mag ⟨true, xh, xl⟩) (WI.mag ⟨true, yh, yl⟩)
    generalize cmpN (WI.mag ⟨true, xh, xl⟩) (WI.mag ⟨true, yh, yl⟩) = z at *
    rcases h3 with rfl | rfl | rfl
    · go_wp2
      go_ret
      exact ⟨by rw [G.out]; rfl, HK.out.trans HK4.out⟩
    · go_wp2
      go_ret
      exact ⟨by rw [G.out]; rfl, HK.out.trans HK4.out⟩
    · go_wp2
      go_ret
      exact ⟨by rw [G.out]; rfl, HK.out.trans HK4.out⟩
end Go.Proofs.YtddleckbbinllaaGreatDoor
