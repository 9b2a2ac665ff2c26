/- What is proved: what the reference's Cmp answers, at numbers in form. -/
import Derived.Test.YtfehiclbcebnoaaGreatMRef01
import Derived.Test.YtfehiclbcebnoaaGreatMFound
import Derived.Test.YtfehiclbcebnoaaGreatMRef05
import Derived.Test.YtfehiclbcebnoaaGreatMLay2
import Derived.Test.YtfehiclbcebnoaaGreatMRegion
import Derived.Test.YtfehiclbcebnoaaGreatMSchParts
import Derived.Test.YtfehiclbcebnoaaGreatMBuilder
import Derived.Test.YtfehiclbcebnoaaGreatMFput
import Derived.Test.YtfehiclbcebnoaaGreatMBox
namespace Go.Proofs.YtfehiclbcebnoaaGreat
open Go.RowKit Go.Proofs.Heap Go.Proofs.Wide

theorem mag_small {x : WI} (h : x.fit) : x.mag < 256 ^ 40 := by
  have h1 := h.1
  have h2 := h.2
  unfold WI.mag
  exact Nat.lt_of_lt_of_le (show _ < 256 ^ 16 by omega) (Nat.pow_le_pow_right (by decide) (by decide))
theorem form_neg {x : WI} (h : x.form = true) (hn : x.neg = true) : x.mag ≠ 0 := by
  unfold WI.form at h
  rw [hn] at h
  simp at h
  exact h.2
theorem cmpW_form {x y : WI} (hx : x.form = true) (hy : y.form = true) : cmpW x y = cmpI x.val y.val := by unfold cmpW; rw [if_pos ⟨hx, hy⟩]
theorem val_pos {x : WI} (h : x.neg = false) : x.val = (x.mag : Int) := by unfold WI.val; rw [h]; rfl
theorem val_neg {x : WI} (h : x.neg = true) : x.val = -(x.mag : Int) := by unfold WI.val; rw [if_pos h]
theorem cmpI_nat (a b : Nat) : cmpI (a : Int) (b : Int) = cmpN a b := by
  unfold cmpI cmpN
  by_cases h : b < a
  · rw [if_pos h, if_pos (by omega)]
  · rw [if_neg h, if_neg (by omega)]
    by_cases h2 : a = b
    · rw [if_pos h2, if_pos (by omega)]
    · rw [if_neg h2, if_neg (by omega)]
theorem cmpI_neg (a b : Nat) : cmpI (-(a : Int)) (-(b : Int)) = -cmpN a b := by
  unfold cmpI cmpN
  by_cases h : b < a
  · rw [if_pos h, if_neg (by omega), if_neg (by omega)]
  · rw [if_neg h]
    by_cases h2 : a = b
    · rw [if_pos h2, if_neg (by omega), if_pos (by omega)]; rfl
    · rw [if_neg h2, if_pos (by omega)]; rfl
theorem cmpN_three (a b : Nat) : cmpN a b = 1 ∨ cmpN a b = 0 ∨ cmpN a b = -1 := by
  unfold cmpN
  by_cases h : b < a
  · rw [if_pos h]; exact .inl rfl
  · rw [if_neg h]
    by_cases h2 : a = b
    · rw [if_pos h2]; exact .inr (.inl rfl)
    · rw [if_neg h2]; exact .inr (.inr rfl)

set_option maxRecDepth 20000 in
set_option maxHeartbeats 2000000 in
theorem r_cmp (x y : WI) (hx : x.fit) (hy : y.fit) (hxf : x.form = true) (hyf : y.form = true) (w : World) : Calls Tryz.prog 108 #[WV x, WV y] w fun r w' => r = .returned (.int .i64 (cmpW x y)) ∧ Keep (fun _ => False) w w' := by
  rw [cmpW_form hxf hyf]
  have HXF := hid hx; have HYF := hid hy
  have HXN := hid (fun h => form_neg hxf h : x.neg = true → x.mag ≠ 0)
  have HYN := hid (fun h => form_neg hyf h : y.neg = true → y.mag ≠ 0)
  have HXM := hid (mag_small hx); have HYM := hid (mag_small hy)
  clear hx hy hxf hyf
  have hb1 := heap_alloc_new w (.cells (WC x) 54)
  have hb2 := heap_alloc_new (w.alloc (.cells (WC x) 54)) (.cells (WC y) 54)
  have e1 : (w.alloc (.cells (WC x) 54)).heap.size = w.heap.size + 1 := by simp
  have hb1' := ((Keep.refl (fun _ => False) (w.alloc (.cells (WC x) 54))).alloc (.cells (WC y) 54)).get hb1 id
  rw [e1] at hb2
  have HK := hid (((Keep.refl (fun _ => False) w).alloc (.cells (WC x) 54)).alloc (.cells (WC y) 54))
  have HA := hid hb1'; have HB := hid hb2
  clear hb1 hb2 hb1' e1
  obtain ⟨xn, xh, xl⟩ := x
  obtain ⟨yn, yh, yl⟩ := y
  go_enter Tryz.func108, Tryz.ntmps108
  go_upto_region 1 with fail
  generalize (w.alloc (.cells #[.bool xn, .int .u64 (xh : Int), .int .u64 (xl : Int)] 54)).alloc (.cells #[.bool yn, .int .u64 (yh : Int), .int .u64 (yl : Int)] 54) = w1 at *
  generalize w.heap.size = sb at *
  have HW : Hid (∀ wy, Keep (fun _ => False) w1 wy → wy.cell? ⟨sb, 0, none⟩ = some (.bool xn) ∧ wy.cell? ⟨sb, 1, none⟩ = some (.int .u64 (xh : Int)) ∧ wy.cell? ⟨sb, 2, none⟩ = some (.int .u64 (xl : Int)) ∧ wy.cell? ⟨sb + 1, 0, none⟩ = some (.bool yn) ∧ wy.cell? ⟨sb + 1, 1, none⟩ = some (.int .u64 (yh : Int)) ∧ wy.cell? ⟨sb + 1, 2, none⟩ = some (.int .u64 (yl : Int))) := hid (fun wy hk =>
    ⟨cell_of (hk.get HA.out id) (by rfl), cell_of (hk.get HA.out id) (by rfl), cell_of (hk.get HA.out id) (by rfl), cell_of (hk.get HB.out id) (by rfl), cell_of (hk.get HB.out id) (by rfl), cell_of (hk.get HB.out id) (by rfl)⟩)
  obtain ⟨s0, s1, s2, s3, s4, s5⟩ := HW.out _ (Keep.refl _ _)
  by_cases hd : xn = yn
  rotate_left
  · cases xn <;> cases yn
    · exact absurd rfl hd
    · have G : Hid (cmpI (WI.val ⟨false, xh, xl⟩) (WI.val ⟨true, yh, yl⟩) = 1) := hid (by
        have h := HYN.out rfl
        rw [val_pos rfl, val_neg rfl]; unfold cmpI; rw [if_pos (by omega)])
      go_wp2
      go_ret
      exact ⟨by rw [G.out]; rfl, HK.out⟩
    · have G : Hid (cmpI (WI.val ⟨true, xh, xl⟩) (WI.val ⟨false, yh, yl⟩) = -1) := hid (by
        have h := HXN.out rfl
        rw [val_neg rfl, val_pos rfl]; unfold cmpI; rw [if_neg (by omega), if_neg (by omega)])
      go_wp2
      go_ret
      exact ⟨by rw [G.out]; rfl, HK.out⟩
    · exact absurd rfl hd
  subst hd
  have g1 : (xn != xn) = false := by simp
  clear s0 s1 s2 s3 s4 s5
  obtain ⟨t0, t1, t2, t3, t4, t5⟩ := HW.out _ (Keep.refl (fun _ => False) w1)
  obtain ⟨s0, s1, s2, s3, s4, s5⟩ := HW.out _ (Keep.refl (fun _ => False) w1).drew
  go_wp2_with fail
  clear t0 t1 t2 t3 t4 t5
  refine Plan.wp_region_pl [(false, 0, []), (false, 2, []), (true, 1, [2]), (true, 3, []), (true, 4, []), (false, 5, [])] (by kernel_rfl) (by kernel_rfl) ?_
  iterate 2 (refine Plan.pl_st rfl ?_; go_big_quiet_step (fail); refine wpQuiet_nil ?_)
  refine Plan.pl_ac rfl ?_
  go_wp2_with fail
  refine (r_from ⟨xn, xh, xl⟩ HXF.out _).mono ?_
  rintro r w2 ⟨rfl, hk2⟩
  have HK2 := hid ((Keep.refl (fun _ => False) w1).drew.trans hk2)
  clear hk2 s0 s1 s2 s3 s4 s5
  obtain ⟨s0, s1, s2, s3, s4, s5⟩ := HW.out _ HK2.out
  go_wp2
  refine Plan.plQ_mk ?_ ?_
  · iterate 1 (refine Plan.chk_st rfl ?_ ?_; focus (go_big_quiet_step (fail); exact wpQuiet_nil rfl))
    exact Plan.chk_end
  refine Plan.pl_ac rfl ?_
  go_wp2_with fail
  refine (r_from ⟨xn, yh, yl⟩ HYF.out _).mono ?_
  rintro r w3 ⟨rfl, hk3⟩
  have HK3 := hid (HK2.out.trans hk3)
  clear hk3 s0 s1 s2 s3 s4 s5
  go_wp2
  refine Plan.plQ_mk Plan.chk_end ?_
  refine Plan.pl_ac rfl ?_
  go_wp2_with fail
  refine (r_size _ _ _ _ HXM.out HYM.out _).mono ?_
  rintro r w4 ⟨rfl, hk4⟩
  have HK4 := hid (HK3.out.trans hk4)
  clear hk4
  go_wp2
  refine Plan.plQ_mk Plan.chk_end ?_
  iterate 1 (refine Plan.pl_st rfl ?_; go_big_quiet_step (fail); refine wpQuiet_nil ?_)
  refine Plan.pl_end ?_
  obtain ⟨s0, s1, s2, s3, s4, s5⟩ := HW.out _ HK4.out
  cases xn
  · have G : Hid (cmpI (WI.val ⟨false, xh, xl⟩) (WI.val ⟨false, yh, yl⟩) = cmpN (WI.mag ⟨false, xh, xl⟩) (WI.mag ⟨false, yh, yl⟩)) := hid (by rw [val_pos rfl, val_pos rfl, cmpI_nat])
    generalize cmpN (WI.mag ⟨false, xh, xl⟩) (WI.mag ⟨false, yh, yl⟩) = z at *
    go_wp2
    go_ret
    exact ⟨by rw [G.out]; rfl, HK.out.trans HK4.out⟩
  · have G : Hid (cmpI (WI.val ⟨true, xh, xl⟩) (WI.val ⟨true, yh, yl⟩) = -cmpN (WI.mag ⟨true, xh, xl⟩) (WI.mag ⟨true, yh, yl⟩)) := hid (by rw [val_neg rfl, val_neg rfl, cmpI_neg])
    have h3 := cmpN_three (WI.mag ⟨true, xh, xl⟩) (WI.mag ⟨true, yh, yl⟩)
    generalize cmpN (WI.mag ⟨true, xh, xl⟩) (WI.mag ⟨true, yh, yl⟩) = z at *
    rcases h3 with rfl | rfl | rfl
    · go_wp2
      go_ret
      exact ⟨by rw [G.out]; rfl, HK.out.trans HK4.out⟩
    · go_wp2
      go_ret
      exact ⟨by rw [G.out]; rfl, HK.out.trans HK4.out⟩
    · go_wp2
      go_ret
      exact ⟨by rw [G.out]; rfl, HK.out.trans HK4.out⟩
end Go.Proofs.YtfehiclbcebnoaaGreat

namespace Go.Proofs.YtfehiclbcebnoaaGreat
open Go.RowKit Go.Proofs.Heap Go.Proofs.Wide

theorem sizeK_pos {k : Int} (h1 : 1 ≤ k) (h2 : k ≤ 10) : sizeK k ≠ 0 := by
  unfold sizeK
  by_cases a : k = 1 ∨ k = 2 ∨ k = 6
  · rw [if_pos a]; decide
  · rw [if_neg a]
    by_cases b : k = 3 ∨ k = 7
    · rw [if_pos b]; decide
    · rw [if_neg b]
      by_cases c : k = 4 ∨ k = 8
      · rw [if_pos c]; decide
      · rw [if_neg c, if_pos (by omega)]; decide

set_option maxRecDepth 20000 in
set_option maxHeartbeats 4000000 in
theorem r_fits (k : Int) (x : WI) (hx : x.fit) (w : World) : Calls Tryz.prog 100 #[.int .i64 k, WV x] w fun r w' => r = .returned (.bool (fitsB k x)) ∧ Keep (fun _ => False) w w' := by
  have HB0 := hid (heap_alloc_new w (.cells (WC x) 54))
  have HK0 := hid ((Keep.refl (fun _ => False) w).alloc (.cells (WC x) 54))
  have HXF := hid hx
  clear hx
  have hfb : fitsB k x = (kindB k && (x.form && (decide (0 ≤ cmpW x (leastW k)) && decide (cmpW x (greatW k) ≤ 0)))) := rfl
  rw [hfb]
  clear hfb
  obtain ⟨xn, xh, xl⟩ := x
  go_enter Tryz.func100, Tryz.ntmps100
  go_upto_region 1 with fail
  generalize w.alloc (.cells #[.bool xn, .int .u64 (xh : Int), .int .u64 (xl : Int)] 54) = w0 at *
  generalize w.heap.size = sb at *
  have HW : Hid (∀ wy, Keep (fun _ => False) w0 wy → wy.cell? ⟨sb, 0, none⟩ = some (.bool xn) ∧ wy.cell? ⟨sb, 1, none⟩ = some (.int .u64 (xh : Int)) ∧ wy.cell? ⟨sb, 2, none⟩ = some (.int .u64 (xl : Int))) := hid (fun wy hk =>
    ⟨cell_of (hk.get HB0.out id) (by rfl), cell_of (hk.get HB0.out id) (by rfl), cell_of (hk.get HB0.out id) (by rfl)⟩)
  go_wp2_with fail
  refine (r_bytes k _).mono ?_
  rintro r w1 ⟨rfl, hk1⟩
  have HK1 := hid hk1
  clear hk1
  by_cases hr : 1 ≤ k ∧ k ≤ 10
  rotate_left
  · have G : Hid (kindB k = false) := hid (decide_eq_false hr)
    rw [sizeK_out (show k < 1 ∨ 10 < k by omega)]
    clear hr
    go_wp2
    go_ret
    exact ⟨by rw [G.out]; rfl, HK0.out.trans HK1.out⟩
  have HR := hid hr
  have HKB : Hid (kindB k = true) := hid (decide_eq_true hr)
  have hsz := sizeK_pos hr.1 hr.2
  clear hr
  generalize sizeK k = z at *
  have g1 : (z == 0) = false := beq_eq_false_iff_ne.2 hsz
  clear hsz
  obtain ⟨s0, s1, s2⟩ := HW.out _ HK1.out
  go_wp2_with fail
  refine (r_good ⟨xn, xh, xl⟩ HXF.out _).mono ?_
  rintro r w2 ⟨rfl, hk2⟩
  have HK2 := hid (HK1.out.trans hk2)
  clear hk2 g1 s0 s1 s2
  cases hfm : WI.form ⟨xn, xh, xl⟩
  · have HFM := hid hfm
    clear hfm
    go_wp2
    go_ret
    exact ⟨by rw [HKB.out, HFM.out]; rfl, HK0.out.trans HK2.out⟩
  have HFM := hid hfm
  clear hfm
  go_wp2_with fail
  refine (r_bounds k HR.out.1 HR.out.2 _).mono ?_
  rintro r w3 ⟨rfl, hk3⟩
  have HK3 := hid (HK2.out.trans hk3)
  have HLF := hid (leastW_fit k); have HLO := hid (leastW_form k); have HGF := hid (greatW_fit k); have HGO := hid (greatW_form k)
  clear hk3
  generalize hlw : leastW k = lw at *
  generalize hgw : greatW k = gw at *
  have HLW := hid hlw; have HGW := hid hgw
  clear hlw hgw
  obtain ⟨ln, lh, ll⟩ := lw
  obtain ⟨gn, gh, gl⟩ := gw
  have hb1 := heap_alloc_new w3 (.cells #[.bool ln, .int .u64 (lh : Int), .int .u64 (ll : Int)] 54)
  have hb2 := heap_alloc_new (w3.alloc (.cells #[.bool ln, .int .u64 (lh : Int), .int .u64 (ll : Int)] 54)) (.cells #[.bool gn, .int .u64 (gh : Int), .int .u64 (gl : Int)] 54)
  have e1 : (w3.alloc (.cells #[.bool ln, .int .u64 (lh : Int), .int .u64 (ll : Int)] 54)).heap.size = w3.heap.size + 1 := by simp
  have hb1' := ((Keep.refl (fun _ => False) (w3.alloc (.cells #[.bool ln, .int .u64 (lh : Int), .int .u64 (ll : Int)] 54))).alloc (.cells #[.bool gn, .int .u64 (gh : Int), .int .u64 (gl : Int)] 54)).get hb1 id
  rw [e1] at hb2
  have HB1 := hid hb1'; have HB2 := hid hb2
  have HK4 := hid ((HK3.out.alloc (.cells #[.bool ln, .int .u64 (lh : Int), .int .u64 (ll : Int)] 54)).alloc (.cells #[.bool gn, .int .u64 (gh : Int), .int .u64 (gl : Int)] 54))
  clear hb1 hb2 hb1' e1
  go_upto_region 4 with fail
  generalize (w3.alloc (.cells #[.bool ln, .int .u64 (lh : Int), .int .u64 (ll : Int)] 54)).alloc (.cells #[.bool gn, .int .u64 (gh : Int), .int .u64 (gl : Int)] 54) = w4 at *
  generalize w3.heap.size = bb at *
  have HX : Hid (∀ wy, Keep (fun _ => False) w4 wy → wy.cell? ⟨bb, 0, none⟩ = some (.bool ln) ∧ wy.cell? ⟨bb, 1, none⟩ = some (.int .u64 (lh : Int)) ∧ wy.cell? ⟨bb, 2, none⟩ = some (.int .u64 (ll : Int)) ∧ wy.cell? ⟨bb + 1, 0, none⟩ = some (.bool gn) ∧ wy.cell? ⟨bb + 1, 1, none⟩ = some (.int .u64 (gh : Int)) ∧ wy.cell? ⟨bb + 1, 2, none⟩ = some (.int .u64 (gl : Int))) := hid (fun wy hk =>
    ⟨cell_of (hk.get HB1.out id) (by rfl), cell_of (hk.get HB1.out id) (by rfl), cell_of (hk.get HB1.out id) (by rfl), cell_of (hk.get HB2.out id) (by rfl), cell_of (hk.get HB2.out id) (by rfl), cell_of (hk.get HB2.out id) (by rfl)⟩)
  obtain ⟨s0, s1, s2⟩ := HW.out _ HK4.out
  obtain ⟨t0, t1, t2, t3, t4, t5⟩ := HX.out _ (Keep.refl (fun _ => False) w4)
  go_wp2_with fail
  refine (r_cmp ⟨xn, xh, xl⟩ ⟨ln, lh, ll⟩ HXF.out HLF.out HFM.out HLO.out _).mono ?_
  rintro r w5 ⟨rfl, hk5⟩
  have HK5 := hid hk5
  clear hk5 s0 s1 s2 t0 t1 t2 t3 t4 t5
  by_cases hc1 : 0 ≤ cmpW ⟨xn, xh, xl⟩ ⟨ln, lh, ll⟩
  rotate_left
  · have HQ : Hid ((kindB k && (WI.form ⟨xn, xh, xl⟩ && (decide (0 ≤ cmpW ⟨xn, xh, xl⟩ (leastW k)) && decide (cmpW ⟨xn, xh, xl⟩ (greatW k) ≤ 0)))) = false) := hid (by
      rw [HKB.out, HFM.out, HLW.out, decide_eq_false hc1]; rfl)
    generalize cmpW ⟨xn, xh, xl⟩ ⟨ln, lh, ll⟩ = z1 at *
    have g1 : decide (0 ≤ z1) = false := decide_eq_false hc1
    go_wp2
    go_ret
    exact ⟨by rw [HQ.out]; rfl, HK0.out.trans (HK4.out.trans HK5.out)⟩
  have G := hid (decide_eq_true hc1)
  have HC1 := hid hc1
  generalize hz1 : cmpW ⟨xn, xh, xl⟩ ⟨ln, lh, ll⟩ = z1 at *
  have g1 : decide (0 ≤ z1) = true := decide_eq_true hc1
  have HZ1 := hid hz1
  clear hz1
  obtain ⟨s0, s1, s2⟩ := HW.out _ (HK4.out.trans HK5.out)
  obtain ⟨t0, t1, t2, t3, t4, t5⟩ := HX.out _ HK5.out
  go_wp2_with fail
  refine (r_cmp ⟨xn, xh, xl⟩ ⟨gn, gh, gl⟩ HXF.out HGF.out HFM.out HGO.out _).mono ?_
  rintro r w6 ⟨rfl, hk6⟩
  have HK6 := hid (HK5.out.trans hk6)
  clear hk6 s0 s1 s2 t0 t1 t2 t3 t4 t5
  have HQ : Hid ((kindB k && (WI.form ⟨xn, xh, xl⟩ && (decide (0 ≤ cmpW ⟨xn, xh, xl⟩ (leastW k)) && decide (cmpW ⟨xn, xh, xl⟩ (greatW k) ≤ 0)))) = decide (cmpW ⟨xn, xh, xl⟩ ⟨gn, gh, gl⟩ ≤ 0)) := hid (by
    rw [HKB.out, HFM.out, HLW.out, HGW.out, HZ1.out, G.out]; rfl)
  generalize cmpW ⟨xn, xh, xl⟩ ⟨gn, gh, gl⟩ = z2 at *
  go_wp2
  go_ret
  exact ⟨by rw [HQ.out]; rfl, HK0.out.trans (HK4.out.trans HK6.out)⟩
end Go.Proofs.YtfehiclbcebnoaaGreat

namespace Go.Proofs.YtfehiclbcebnoaaGreat
open Go.RowKit Go.Proofs.Heap Go.Proofs.Sch Go.Proofs.Wide

def kRun (fs : List Fld) : List Int := fs.flatMap (fun f => List.replicate f.count.toNat f.kind)
theorem eRun_kinds (fs : List Fld) : (eRun fs).map (·.1) = kRun fs := by
  have key : ∀ (fs : List Fld) (st : Nat × List (Int × Nat)), (fs.foldl eStep st).2.map (·.1) = st.2.map (·.1) ++ kRun fs := by
    intro fs
    induction fs with
    | nil => intro st; simp [kRun]
    | cons f r ih =>
      intro st
      rw [List.foldl_cons, ih]
      have h : (eAdd f.kind (upN st.1 (szN f.kind)) (szN f.kind) f.count.toNat).map (·.1) = List.replicate f.count.toNat f.kind := by
        unfold eAdd
        rw [List.map_map]
        apply List.ext_getElem? 
        intro i
        by_cases hi : i < f.count.toNat
        · simp [hi]
        · rw [List.getElem?_eq_none (by simp; omega), List.getElem?_eq_none (by simp; omega)]
      simp only [eStep, List.map_append, h, kRun, List.flatMap_cons, List.append_assoc]
  have := key fs (0, [])
  simpa [eRun] using this
theorem zip_rep (k : Int) (q : Int → WI → Bool) : ∀ (n : Nat) (vs : List WI), ((List.replicate n k).zip vs).all (fun p => q p.1 p.2) = (vs.take n).all (q k)
  | 0, vs => by simp
  | n + 1, [] => by simp
  | n + 1, v :: vs => by
    rw [List.replicate_succ, List.zip_cons_cons, List.take_succ_cons, List.all_cons, List.all_cons, zip_rep k q n vs]
theorem fitRun_zip : ∀ (fs : List Fld) (vs : List WI), sumN fs ≤ vs.length → fitRun fs vs = ((kRun fs).zip vs).all (fun p => fitsB p.1 p.2)
  | [], vs, _ => by simp [fitRun, kRun]
  | f :: r, vs, h => by
    simp only [sumN] at h
    have ih := fitRun_zip r (vs.drop f.count.toNat) (by rw [List.length_drop]; omega)
    have e : vs = vs.take f.count.toNat ++ vs.drop f.count.toNat := (List.take_append_drop _ _).symm
    have hz : (kRun (f :: r)).zip vs = (List.replicate f.count.toNat f.kind).zip (vs.take f.count.toNat) ++ (kRun r).zip (vs.drop f.count.toNat) := by
      conv => lhs; rw [e]
      unfold kRun
      rw [List.flatMap_cons, List.zip_append (by rw [List.length_replicate, List.length_take]; omega)]
    rw [hz, List.all_append, zip_rep, List.take_take, Nat.min_self]
    unfold fitRun
    rw [ih]
theorem fit_zip {fs : List Fld} {vs : List WI} {i : Nat} {e : Int × Nat} {v : WI} (he : (eRun fs)[i]? = some e) (hv : vs[i]? = some v) : ((kRun fs).zip vs)[i]? = some (e.1, v) := by
  rw [List.getElem?_zip_eq_some]
  refine ⟨?_, hv⟩
  rw [← eRun_kinds, List.getElem?_map, he]; rfl
theorem fit_yes {fs : List Fld} {vs : List WI} (hl : vs.length = sumN fs) (h : ∀ (i : Nat) (e : Int × Nat) (v : WI), (eRun fs)[i]? = some e → vs[i]? = some v → fitsB e.1 v = true) : fitRun fs vs = true := by
  rw [fitRun_zip fs vs (by omega), List.all_eq_true]
  rintro ⟨k, v⟩ hm
  obtain ⟨i, hi⟩ := List.getElem?_of_mem hm
  rw [List.getElem?_zip_eq_some] at hi
  obtain ⟨h1, h2⟩ := hi
  rw [← eRun_kinds, List.getElem?_map] at h1
  cases he : (eRun fs)[i]? with
  | none => rw [he] at h1; cases h1
  | some e =>
    rw [he] at h1
    injection h1 with h1
    have := h i e v he h2
    simp only at h1
    rw [h1] at this
    exact this
theorem fit_no {fs : List Fld} {vs : List WI} {i : Nat} {e : Int × Nat} {v : WI} (hl : vs.length = sumN fs) (he : (eRun fs)[i]? = some e) (hv : vs[i]? = some v) (hb : fitsB e.1 v = false) : fitRun fs vs = false := by
  rw [fitRun_zip fs vs (by omega), List.all_eq_false]
  exact ⟨_, List.mem_of_getElem? (fit_zip he hv), by simp [hb]⟩

theorem flat2_at {α : Type} {g : α → List Value} (hg : ∀ x, (g x).length = 2) : ∀ (l : List α) (i r : Nat) (x : α), l[i]? = some x → r < 2 → (l.flatMap g)[i * 2 + r]? = (g x)[r]?
  | [], i, r, x, h, _ => by simp at h
  | a :: l, 0, r, x, h, hr => by
    simp at h
    subst h
    rw [List.flatMap_cons, List.getElem?_append_left (by rw [hg]; omega)]
    simp
  | a :: l, i + 1, r, x, h, hr => by
    rw [List.flatMap_cons, List.getElem?_append_right (by rw [hg]; omega), hg, show (i + 1) * 2 + r - 2 = i * 2 + r by omega]
    exact flat2_at hg l i r x (by simpa using h) hr
theorem ly_kind {w y : World} {g c : Nat} {v7 : Value} {es : List (Int × Nat)} {ss : List Nat} (h : LY w (.slice (some ⟨g, 0, none⟩) es.length c) v7 es ss y) {i : Nat} {e : Int × Nat} (he : es[i]? = some e) : y.cell? ⟨g, i * 2, none⟩ = some (.int .i64 e.1) ∧ y.cell? ⟨g, i * 2 + 1, none⟩ = some (iV e.2) := by
  have hadd : ∀ j, (⟨g, 0, none⟩ : Addr).add j = ⟨g, j, none⟩ := fun j => by unfold Addr.add; split <;> simp_all
  refine ⟨?_, ?_⟩
  · have := h.o6.cells (g := g) rfl (i * 2 + 0) (.int .i64 e.1) (by rw [flat2_at (g := ecl) (fun _ => rfl) es i 0 e he (by decide)]; rfl)
    rwa [hadd] at this
  · have := h.o6.cells (g := g) rfl (i * 2 + 1) (iV e.2) (by rw [flat2_at (g := ecl) (fun _ => rfl) es i 1 e he (by decide)]; rfl)
    rwa [hadd] at this

set_option maxRecDepth 20000 in
set_option maxHeartbeats 4000000 in
theorem r_fit (fs : List Fld) (p : Option Addr) (cap : Nat) (vs : List WI) (q : Option Addr) (qc : Nat) (w : World) (hfit : ∀ x ∈ vs, x.fit) (hf : FP w w.heap.size p fs) (hv : XP w w.heap.size q vs) :
    Calls Tryz.prog 84 #[.slice p fs.length cap, .slice q vs.length qc] w fun r w' => r = .returned (iV (fitC fs vs)) ∧ Keep (fun _ => False) w w' := by
  have HV := hid hv; have HX := hid hfit
  have HF := hid hf
  clear hv hfit hf
  go_enter Tryz.func84, Tryz.ntmps84
  go_wp2_with fail
  refine (r_lay fs p cap _ HF.out).mono ?_
  rintro r w1 ⟨hr, hk1⟩
  have HK1 := hid hk1
  clear hk1
  rcases hr with ⟨hne, rfl⟩ | ⟨heq, xp, xc, xq, xd, rfl, hly⟩
  · have G : Hid (fitC fs vs = layC fs) := hid (by unfold fitC; rw [if_neg hne])
    generalize layC fs = e at *
    have g1 : ((e : Int) != 0) = true := by simp only [bne, beq_eq_false_iff_ne.2 (show (e : Int) ≠ 0 by omega)]; rfl
    have g2 : (e != 0) = true := by simp only [bne, beq_eq_false_iff_ne.2 hne]; rfl
    go_wp2
    go_ret
    exact ⟨by rw [G.out]; rfl, HK1.out⟩
  have HLY := hid hly; have HEQ := hid heq
  have HLEN := hid (eRun_len fs)
  have HS8 := hid (sumN_le fs (layC_zero heq).2)
  have HF8 := hid (layC_zero heq).1
  clear hly heq
  by_cases hlv : vs.length = sumN fs
  rotate_left
  · have G : Hid (fitC fs vs = 4) := hid (by unfold fitC; rw [if_pos HEQ.out, if_neg hlv])
    have hle : (eRun fs).length ≠ vs.length := by rw [HLEN.out]; omega
    clear hlv
    generalize (eRun fs).length = n at *
    have g1 : ((n : Int) != (vs.length : Int)) = true := by simp only [bne, beq_eq_false_iff_ne.2 (show (n : Int) ≠ (vs.length : Int) by omega)]; rfl
    have g2 : (n != vs.length) = true := by simp only [bne, beq_eq_false_iff_ne.2 hle]; rfl
    go_wp2
    go_ret
    exact ⟨by rw [G.out]; rfl, HK1.out⟩
  have HLV := hid hlv
  have hev : (eRun fs).length = vs.length := by rw [HLEN.out]; exact hlv.symm
  have HEV := hid hev
  have hl64 : vs.length ≤ 65536 := by have := HS8.out; have := HF8.out; omega
  rw [hev]
  clear hlv hev
  have g1 : ((vs.length : Int) != (vs.length : Int)) = false := by simp
  have g2 : (vs.length != vs.length) = false := by simp
  go_wp2_with fail
  clear g1 g2
  go_loopw [9] (fun i wr => ∃ k : Nat, k ≤ vs.length ∧ i = iV k ∧ (∀ (j : Nat) (e : Int × Nat) (v : WI), j < k → (eRun fs)[j]? = some e → vs[j]? = some v → fitsB e.1 v = true) ∧ Keep (fun _ => False) w1 wr) (fun i _ => vs.length + 1 - (intOf i).toNat)
  case atStart => exact ⟨0, Nat.zero_le _, rfl, fun j e v h => by omega, Keep.refl _ _⟩
  case round =>
    obtain ⟨k, hk, rfl, hall, hkr⟩ := hrel
    have HALL := hid hall; have HKR := hid hkr
    clear hall hkr
    by_cases hlt : k < vs.length
    · obtain ⟨e, he⟩ : ∃ e, (eRun fs)[k]? = some e := ⟨(eRun fs)[k]'(by rw [HEV.out]; exact hlt), by rw [List.getElem?_eq_getElem]⟩
      obtain ⟨v, hv⟩ : ∃ v, vs[k]? = some v := ⟨vs[k], by simp [hlt]⟩
      have HXF := hid (HX.out v (List.mem_of_getElem? hv))
      have HNO := hid (fun h => fit_no HLV.out he hv h : fitsB e.1 v = false → fitRun fs vs = false)
      have HYES : Hid (fitsB e.1 v = true → ∀ (j : Nat) (e' : Int × Nat) (v' : WI), j < k + 1 → (eRun fs)[j]? = some e' → vs[j]? = some v' → fitsB e'.1 v' = true) := hid (fun h j e' v' hj h1 h2 => by
        by_cases hjk : j < k
        · exact HALL.out j e' v' hjk h1 h2
        · have : j = k := by omega
          subst this
          rw [he] at h1; rw [hv] at h2
          injection h1 with h1; injection h2 with h2
          subst h1; subst h2
          exact h)
      have hly := HLY.out.keep0 HKR.out.drew
      obtain ⟨g, rfl⟩ := owns_some hly.o6 (by rw [HEV.out]; omega)
      have hkd := (ly_kind hly he).1
      obtain ⟨b, off, rfl, hb, c0, c1, c2⟩ := XP.at (XP.low HV.out (Low.keep0 (HK1.out.trans HKR.out.drew))) hv
      have hin : (0 : Int) ≤ (k : Int) ∧ (k : Int) < (vs.length : Int) := ⟨by omega, by omega⟩
      clear he hv hly hb
      obtain ⟨kd, ea⟩ := e
      obtain ⟨vn, vh, vl⟩ := v
      simp only at hkd c0 c1 c2
      go_wp2_with fail
      refine Plan.wp_region_pl [(false, 0, []), (false, 1, []), (false, 2, []), (false, 3, []), (false, 4, []), (false, 5, []), (false, 6, []), (false, 7, []), (false, 8, []), (true, 9, []), (false, 10, [])] (by kernel_rfl) (by kernel_rfl) ?_
      iterate 9 (refine Plan.pl_st rfl ?_; go_big_quiet_step (fail); refine wpQuiet_nil ?_)
      refine Plan.pl_ac rfl ?_
      go_wp2_with fail
      refine (r_fits kd ⟨vn, vh, vl⟩ HXF.out _).mono ?_
      rintro r w5 ⟨rfl, hk5⟩
      have HK5 := hid (HKR.out.drew.trans hk5)
      clear hk5 hkd c0 c1 c2
      go_wp2
      refine Plan.plQ_mk Plan.chk_end ?_
      cases hfb : fitsB kd ⟨vn, vh, vl⟩
      · have G : Hid (fitC fs vs = 3) := hid (by unfold fitC; rw [if_pos HEQ.out, if_pos HLV.out, HNO.out hfb]; rfl)
        clear hfb
        iterate 1 (refine Plan.pl_st rfl ?_; go_big_quiet_step (fail); refine wpQuiet_nil ?_)
        refine Plan.pl_end ?_
        go_wp2
        go_ret
        exact ⟨by rw [G.out]; rfl, HK1.out.trans HK5.out⟩
      · have G := hid (HYES.out hfb)
        clear hfb
        iterate 1 (refine Plan.pl_st rfl ?_; go_big_quiet_step (fail); refine wpQuiet_nil ?_)
        refine Plan.pl_end ?_
        go_wp2
        go_roundw
        case rel => exact ⟨k + 1, by omega, by go_num, G.out, HK5.out⟩
        case measure => simp [intOf]; omega
    · obtain rfl : k = vs.length := by omega
      have G : Hid (fitC fs vs = 0) := hid (by
        have hy := fit_yes HLV.out (fun i e v he hv => HALL.out i e v (List.getElem?_eq_some_iff.1 hv).1 he hv)
        unfold fitC; rw [if_pos HEQ.out, if_pos HLV.out, if_pos hy])
      have g1 : decide ((vs.length : Int) < (vs.length : Int)) = false := decide_eq_false (by omega)
      clear HALL
      go_wp2
      go_ret
      exact ⟨by rw [G.out]; rfl, HK1.out.trans HKR.out⟩
end Go.Proofs.YtfehiclbcebnoaaGreat

namespace Go.Proofs.YtfehiclbcebnoaaGreat
open Go.RowKit Go.Proofs.Heap Go.Proofs.Sch Go.Proofs.Wide

set_option maxRecDepth 20000 in
set_option maxHeartbeats 4000000 in
theorem r_part (v : Int) (cs : List Cmp) (p : Option Addr) (cap : Nat) (x : Prt) (q : Option Addr) (qc : Nat) (w : World) (hl : Small cs) (hfit : ∀ y ∈ x.vals, y.fit) (hf : CP w w.heap.size p cs) (hv : XP w w.heap.size q x.vals) :
    Calls Tryz.prog 52 #[.agg #[.int .i64 v, .slice p cs.length cap], .agg #[.int .i64 x.comp, .slice q x.vals.length qc]] w fun r w' => r = .returned (iV (partC cs x)) ∧ Keep (fun _ => False) w w' := by
  obtain ⟨xc, xv⟩ := x
  simp only at hfit hv
  have hb1 := heap_alloc_new w (.cells #[.int .i64 v, .slice p cs.length cap] 24)
  have hb2 := heap_alloc_new (w.alloc (.cells #[.int .i64 v, .slice p cs.length cap] 24)) (.cells #[.int .i64 xc, .slice q xv.length qc] 30)
  have e1 : (w.alloc (.cells #[.int .i64 v, .slice p cs.length cap] 24)).heap.size = w.heap.size + 1 := by simp
  have hb1' := ((Keep.refl (fun _ => False) (w.alloc (.cells #[.int .i64 v, .slice p cs.length cap] 24))).alloc (.cells #[.int .i64 xc, .slice q xv.length qc] 30)).get hb1 id
  rw [e1] at hb2
  have hk := ((Keep.refl (fun _ => False) w).alloc (.cells #[.int .i64 v, .slice p cs.length cap] 24)).alloc (.cells #[.int .i64 xc, .slice q xv.length qc] 30)
  have HA := hid hb1'; have HB := hid hb2; have HK0 := hid hk
  have HF0 := hid (CP.mono (CP.low hf (Low.keep0 hk)) hk.size)
  have HV0 := hid (XP.mono (XP.low hv (Low.keep0 hk)) hk.size)
  have HSM := hid hl; have HX := hid hfit
  clear hb1 hb2 hb1' e1 hk hf hv hl hfit
  go_enter Tryz.func52, Tryz.ntmps52
  go_upto_region 1 with fail
  generalize (w.alloc (.cells #[.int .i64 v, .slice p cs.length cap] 24)).alloc (.cells #[.int .i64 xc, .slice q xv.length qc] 30) = w0 at *
  generalize w.heap.size = sb at *
  have HW : Hid (∀ wy, Keep (fun _ => False) w0 wy → wy.cell? ⟨sb, 0, none⟩ = some (.int .i64 v) ∧ wy.cell? ⟨sb, 1, none⟩ = some (.slice p cs.length cap) ∧ wy.cell? ⟨sb + 1, 0, none⟩ = some (.int .i64 xc) ∧ wy.cell? ⟨sb + 1, 1, none⟩ = some (.slice q xv.length qc)) := hid (fun wy hk =>
    ⟨cell_of (hk.get HA.out id) (by rfl), cell_of (hk.get HA.out id) (by rfl), cell_of (hk.get HB.out id) (by rfl), cell_of (hk.get HB.out id) (by rfl)⟩)
  have HC : Hid (∀ wy, Keep (fun _ => False) w0 wy → CP wy wy.heap.size p cs ∧ XP wy wy.heap.size q xv) := hid (fun wy hk => ⟨CP.mono (CP.low HF0.out (Low.keep0 hk)) hk.size, XP.mono (XP.low HV0.out (Low.keep0 hk)) hk.size⟩)
  obtain ⟨s0, s1, s2, s3⟩ := HW.out _ (Keep.refl _ _)
  go_wp2_with fail
  refine (r_find xc v cs p cap _ HSM.out.1 HF0.out).mono ?_
  rintro r w1 ⟨rfl, hk1⟩
  have HK1 := hid hk1
  clear hk1 s0 s1 s2 s3
  rcases idx_cases (fun c : Cmp => decide (c.id = xc)) cs with hi | ⟨k, c, hi, hck, _, hkl⟩
  · have G : Hid (partC cs ⟨xc, xv⟩ = 6) := hid (by unfold partC; simp only; rw [find_of_idx.1 hi])
    rw [hi]
    clear hi
    go_wp2
    go_ret
    exact ⟨by rw [G.out]; rfl, HK0.out.trans HK1.out⟩
  · have G : Hid (partC cs ⟨xc, xv⟩ = fitC c.fs xv) := hid (by unfold partC; simp only; rw [find_of_idx.2 k c hi hck])
    rw [hi]
    have hl65 := HSM.out.1
    obtain ⟨b, off, fq, fk, rfl, hb, c0, c1, c2, _, hff⟩ := CP.at (HC.out _ HK1.out.drew).1 hck
    have hin : (0 : Int) ≤ (k : Int) ∧ (k : Int) < (cs.length : Int) := ⟨by omega, by omega⟩
    have g1 : decide ((k : Int) < 0) = false := decide_eq_false (by omega)
    have HFF := hid hff
    clear hi hck hff hb
    obtain ⟨ci, cn, fs⟩ := c
    simp only at c2 HFF G
    obtain ⟨s0, s1, s2, s3⟩ := HW.out _ HK1.out.drew
    go_wp2_with fail
    refine Plan.wp_region_pl [(false, 0, []), (false, 1, []), (false, 2, []), (false, 3, []), (false, 4, []), (false, 5, []), (false, 6, []), (false, 7, []), (true, 8, []), (false, 9, [])] (by kernel_rfl) (by kernel_rfl) ?_
    iterate 8 (refine Plan.pl_st rfl ?_; go_big_quiet_step (fail); refine wpQuiet_nil ?_)
    refine Plan.pl_ac rfl ?_
    go_wp2_with fail
    refine (r_fit fs fq fk xv q qc _ HX.out HFF.out (HC.out _ HK1.out.drew).2).mono ?_
    rintro r w2 ⟨rfl, hk2⟩
    have HK2 := hid (HK1.out.drew.trans hk2)
    clear hk2 s0 s1 s2 s3 c0 c1 c2 g1
    go_wp2
    refine Plan.plQ_mk Plan.chk_end ?_
    iterate 1 (refine Plan.pl_st rfl ?_; go_big_quiet_step (fail); refine wpQuiet_nil ?_)
    refine Plan.pl_end ?_
    go_wp2
    go_ret
    exact ⟨by rw [G.out]; rfl, HK0.out.trans HK2.out⟩

theorem partsC_cons (cs : List Cmp) (seen : List Int) (x : Prt) (r : List Prt) : partsC cs seen (x :: r) = if seen.any (fun c => decide (c = x.comp)) = true then 1 else if partC cs x = 0 then partsC cs (seen ++ [x.comp]) r else partC cs x := rfl

set_option maxRecDepth 20000 in
set_option maxHeartbeats 4000000 in
theorem r_parts (v : Int) (cs : List Cmp) (p : Option Addr) (cap : Nat) (l : List Prt) (q : Option Addr) (qc : Nat) (w : World) (hl : Small cs) (hll : l.length ≤ 65536) (hvl : ∀ x ∈ l, ∀ y ∈ x.vals, y.fit) (hf : CP w w.heap.size p cs) (hv : PP w w.heap.size q l) :
    Calls Tryz.prog 22 #[.agg #[.int .i64 v, .slice p cs.length cap], .slice q l.length qc] w fun r w' => r = .returned (iV (partsC cs [] l)) ∧ Keep (fun _ => False) w w' := by
  have hk0 := (Keep.refl (fun _ => False) w).alloc (.cells #[.int .i64 v, .slice p cs.length cap] 24)
  have HB0 := hid (heap_alloc_new w (.cells #[.int .i64 v, .slice p cs.length cap] 24))
  have HF0 := hid (CP.mono (CP.low hf (Low.keep0 hk0)) hk0.size)
  have HV0 := hid (PP.mono (PP.low hv (Low.keep0 hk0)) hk0.size)
  have HK0 := hid hk0; have HSM := hid hl; have HX := hid hvl
  clear hf hv hk0 hl hvl
  go_enter Tryz.func22, Tryz.ntmps22
  go_upto_region 1 with fail
  generalize w.alloc (.cells #[.int .i64 v, .slice p cs.length cap] 24) = w0 at *
  generalize w.heap.size = sb at *
  have HS : Hid (∀ wy, Keep (fun _ => False) w0 wy → wy.cell? ⟨sb, 0, none⟩ = some (.int .i64 v) ∧ wy.cell? ⟨sb, 1, none⟩ = some (.slice p cs.length cap)) := hid (fun wy hk => ⟨cell_of (hk.get HB0.out (fun h => h)) (by rfl), cell_of (hk.get HB0.out (fun h => h)) (by rfl)⟩)
  have HC : Hid (∀ wy, Keep (fun _ => False) w0 wy → CP wy wy.heap.size p cs ∧ PP wy wy.heap.size q l) := hid (fun wy hk => ⟨CP.mono (CP.low HF0.out (Low.keep0 hk)) hk.size, PP.mono (PP.low HV0.out (Low.keep0 hk)) hk.size⟩)
  go_wp2_with fail
  go_loopw [5, 6, 7] (fun i _ _ wr => ∃ k : Nat, k ≤ l.length ∧ i = iV k ∧ partsC cs [] l = partsC cs ((l.take k).map (·.comp)) (l.drop k) ∧ Keep (fun _ => False) w0 wr) (fun i _ _ _ => l.length + 1 - (intOf i).toNat)
  case atStart => exact ⟨0, Nat.zero_le _, rfl, rfl, Keep.refl _ _⟩
  case round =>
    obtain ⟨k, hk, rfl, heq, hkr⟩ := hrel
    have HEQ := hid heq; have HKR := hid hkr
    clear heq hkr
    by_cases hlt : k < l.length
    · obtain ⟨x, hxk⟩ : ∃ x, l[k]? = some x := ⟨l[k], by simp [hlt]⟩
      have HEX := hid (show partsC cs [] l = if ((l.take k).map (·.comp)).any (fun c => decide (c = x.comp)) = true then 1 else if partC cs x = 0 then partsC cs ((l.take (k + 1)).map (·.comp)) (l.drop (k + 1)) else partC cs x by
        rw [HEQ.out, drop_next hxk, partsC_cons, take_next hxk, List.map_append]; rfl)
      have HXK := hid hxk
      have HXM := hid (HX.out x (List.mem_of_getElem? hxk))
      obtain ⟨xc, xv⟩ := x
      simp only at HEX HXM
      clear hxk HEQ
      go_wp2_with fail
      go_loopw [6] (fun i wy => ∃ m : Nat, m ≤ k ∧ i = iV m ∧ (∀ d ∈ l.take m, d.comp ≠ xc) ∧ Keep (fun _ => False) w0 wy) (fun i _ => k + 1 - (intOf i).toNat)
      case atStart => exact ⟨0, Nat.zero_le _, rfl, by simp, HKR.out⟩
      case round =>
        clear HKR
        obtain ⟨m, hm, rfl, hall, hkm⟩ := hrel
        have HALL := hid hall; have HKM := hid hkm
        clear hall hkm
        by_cases hmk : m < k
        · have g1 : decide ((m : Int) < (k : Int)) = true := decide_eq_true (by omega)
          have g2 : decide (m < k) = true := decide_eq_true hmk
          obtain ⟨d, hd⟩ : ∃ d, l[m]? = some d := ⟨l[m], by simp [show m < l.length by omega]⟩
          have HDM : Hid (d ∈ l.take k) := hid (List.mem_of_getElem? (i := m) (by rw [List.getElem?_take_of_lt hmk]; exact hd))
          have HNX : Hid (d.comp ≠ xc → ∀ y ∈ l.take (m + 1), y.comp ≠ xc) := hid (fun hc y hy => by
            rw [take_next hd] at hy
            rcases List.mem_append.1 hy with h | h
            · exact HALL.out y h
            · rw [List.mem_singleton.1 h]; exact hc)
          obtain ⟨b, off, _, _, rfl, _, c0, _⟩ := PP.at (HC.out _ HKM.out.drew).2 hd
          obtain ⟨b', off', _, _, hp, _, d0, _⟩ := PP.at (HC.out _ HKM.out.drew).2 HXK.out
          injection hp with hp
          injection hp with q1 q2
          subst q1; subst q2
          simp only at d0
          have hin : (0 : Int) ≤ (m : Int) ∧ (m : Int) < (l.length : Int) := ⟨by omega, by omega⟩
          have hin2 : (0 : Int) ≤ (k : Int) ∧ (k : Int) < (l.length : Int) := ⟨by omega, by omega⟩
          clear hd
          obtain ⟨dc, dv⟩ := d
          simp only at c0 HNX
          by_cases he : dc = xc
          · have G : Hid (partsC cs [] l = 1) := hid (by
              rw [HEX.out, if_pos (List.any_eq_true.2 ⟨xc, List.mem_map.2 ⟨_, HDM.out, he⟩, decide_eq_true rfl⟩)])
            have g3 : (dc == xc) = true := beq_iff_eq.2 he
            have HWK := hid HKM.out.drew
            clear he
            go_wp2_with fail
            refine Plan.wp_region_pl [(false, 0, []), (false, 1, []), (false, 2, []), (false, 3, []), (false, 4, []), (false, 5, []), (false, 6, []), (false, 7, []), (false, 8, []), (false, 9, []), (false, 10, [])] (by kernel_rfl) (by kernel_rfl) ?_
            iterate 11 (refine Plan.pl_st rfl ?_; go_big_quiet_step (fail); refine wpQuiet_nil ?_)
            refine Plan.pl_end ?_
            go_wp2
            go_ret
            exact ⟨by rw [G.out]; rfl, HK0.out.trans HWK.out⟩
          · have G := hid (HNX.out he)
            have g3 : (dc == xc) = false := beq_eq_false_iff_ne.2 he
            clear he
            go_wp2_with fail
            refine Plan.wp_region_pl [(false, 0, []), (false, 1, []), (false, 2, []), (false, 3, []), (false, 4, []), (false, 5, []), (false, 6, []), (false, 7, []), (false, 8, []), (false, 9, []), (false, 10, [])] (by kernel_rfl) (by kernel_rfl) ?_
            iterate 11 (refine Plan.pl_st rfl ?_; go_big_quiet_step (fail); refine wpQuiet_nil ?_)
            refine Plan.pl_end ?_
            go_wp2
            go_roundw
            case rel => exact ⟨m + 1, by omega, by go_num, G.out, HKM.out.drew⟩
            case measure => simp [intOf]; omega
        · obtain rfl : m = k := by omega
          have g1 : decide ((m : Int) < (m : Int)) = false := decide_eq_false (by omega)
          have g2 : decide (m < m) = false := decide_eq_false (by omega)
          have HNN : Hid (((l.take m).map (·.comp)).any (fun c => decide (c = xc)) = false) := hid (by
            rw [List.any_eq_false]
            intro c hc
            obtain ⟨d, hd, rfl⟩ := List.mem_map.1 hc
            simpa using HALL.out d hd)
          obtain ⟨b, off, xq, xk, rfl, _, c0, c1, _, hxv⟩ := PP.at (HC.out _ HKM.out.drew).2 HXK.out
          simp only at c0 c1 hxv
          have HXV := hid hxv
          have hin2 : (0 : Int) ≤ (m : Int) ∧ (m : Int) < (l.length : Int) := ⟨by omega, by omega⟩
          obtain ⟨s0, s1⟩ := HS.out _ HKM.out.drew
          clear hxv
          go_wp2_with fail
          refine Plan.wp_region_pl [(false, 0, []), (false, 1, []), (false, 2, []), (false, 3, []), (false, 4, []), (true, 5, []), (false, 6, [])] (by kernel_rfl) (by kernel_rfl) ?_
          iterate 5 (refine Plan.pl_st rfl ?_; go_big_quiet_step (fail); refine wpQuiet_nil ?_)
          refine Plan.pl_ac rfl ?_
          go_wp2_with fail
          refine (r_part v cs p cap ⟨xc, xv⟩ xq xk _ HSM.out HXM.out (HC.out _ HKM.out.drew).1 HXV.out).mono ?_
          rintro r w2 ⟨rfl, hk2⟩
          have HK2 := hid (HKM.out.drew.trans hk2)
          clear hk2 s0 s1 c0 c1 g1 g2
          go_wp2
          refine Plan.plQ_mk Plan.chk_end ?_
          iterate 1 (refine Plan.pl_st rfl ?_; go_big_quiet_step (fail); refine wpQuiet_nil ?_)
          refine Plan.pl_end ?_
          by_cases hz : partC cs ⟨xc, xv⟩ = 0
          · have G := hid (show partsC cs [] l = partsC cs ((l.take (m + 1)).map (·.comp)) (l.drop (m + 1)) by rw [HEX.out, if_neg (by rw [HNN.out]; exact Bool.false_ne_true), if_pos hz])
            rw [hz]
            clear hz
            go_wp2
            go_roundw
            case rel => exact ⟨m + 1, by omega, by go_num, G.out, HK2.out⟩
            case measure => simp [intOf]; omega
          · have G := hid (show partsC cs [] l = partC cs ⟨xc, xv⟩ by rw [HEX.out, if_neg (by rw [HNN.out]; exact Bool.false_ne_true), if_neg hz])
            generalize partC cs ⟨xc, xv⟩ = e at *
            have g1 : ((e : Int) != 0) = true := by simp only [bne, beq_eq_false_iff_ne.2 (show (e : Int) ≠ 0 by omega)]; rfl
            have g2 : (e != 0) = true := by simp only [bne, beq_eq_false_iff_ne.2 hz]; rfl
            go_wp2
            go_ret
            exact ⟨by rw [G.out]; rfl, HK0.out.trans HK2.out⟩
    · obtain rfl : k = l.length := by omega
      have G : Hid (partsC cs [] l = 0) := hid (by rw [HEQ.out, List.drop_length]; rfl)
      have g1 : decide ((l.length : Int) < (l.length : Int)) = false := decide_eq_false (by omega)
      go_wp2
      go_ret
      exact ⟨by rw [G.out]; rfl, HK0.out.trans HKR.out⟩
end Go.Proofs.YtfehiclbcebnoaaGreat

namespace Go.Proofs.YtfehiclbcebnoaaGreat
open Go.RowKit Go.Proofs.Heap Go.Proofs.Sch Go.Proofs.Wide

/-- Bytes with others written over them from a on. -/
def wrE (b : List UInt8) (a : Nat) (l : List UInt8) : List UInt8 := b.take a ++ (l ++ b.drop (a + l.length))
def wrStep (b : List UInt8) (p : (Int × Nat) × WI) : List UInt8 := wrE b p.1.2 (putL p.1.1 p.2)
/-- The row behind the first n elements. -/
def rowN (fs : List Fld) (vs : List WI) (n : Nat) : List UInt8 := (((eRun fs).zip vs).take n).foldl wrStep (List.replicate (pSize fs) 0)
def rowL (fs : List Fld) (vs : List WI) : List UInt8 := rowN fs vs (eRun fs).length

theorem wrE_len {b : List UInt8} {a : Nat} {l : List UInt8} (h : a + l.length ≤ b.length) : (wrE b a l).length = b.length := by
  unfold wrE
  rw [List.length_append, List.length_append, List.length_take, List.length_drop]
  omega
theorem wrE_nil (b : List UInt8) (a : Nat) : wrE b a [] = b := by
  unfold wrE
  rw [List.nil_append, List.length_nil, Nat.add_zero, List.take_append_drop]
/-- One byte more. -/
theorem wrE_next {b : List UInt8} {a : Nat} {l : List UInt8} {k : Nat} {x : UInt8} (h : l[k]? = some x) (hb : a + l.length ≤ b.length) : wrE b a (l.take (k + 1)) = (wrE b a (l.take k)).set (a + k) x := by
  have hk : k < l.length := (List.getElem?_eq_some_iff.1 h).1
  have h1 : (l.take k).length = k := by rw [List.length_take]; omega
  have h2 : (l.take (k + 1)).length = k + 1 := by rw [List.length_take]; omega
  have h3 : (b.take a).length = a := by rw [List.length_take]; omega
  have h4 : b.drop (a + k) = b[a + k]'(by omega) :: b.drop (a + k + 1) := List.drop_eq_getElem_cons (by omega)
  unfold wrE
  rw [h1, h2, take_next h, h4, List.append_assoc, List.set_append_right (h := by omega), h3, List.set_append_right (h := by omega), h1, show a + k - a - k = 0 by omega]
  rfl
theorem wrE_pad {M a : Nat} {L : List UInt8} (hL : L.length = a) (l : List UInt8) (x : UInt8) : wrE (L ++ List.replicate M x) a l = L ++ l ++ List.replicate (M - l.length) x := by
  unfold wrE
  rw [List.take_left' hL, ← List.drop_drop, List.drop_left' hL, List.drop_replicate, List.append_assoc]

theorem padL_zero {P : List UInt8} {a N : Nat} (h1 : P.length ≤ a) (h2 : a ≤ N) : P ++ List.replicate (N - P.length) 0 = padL P a ++ List.replicate (N - a) 0 := by
  unfold padL
  rw [List.append_assoc, List.replicate_append_replicate, show a - P.length + (N - a) = N - P.length by omega]
/-- The elements of one field. -/
theorem row_field {kd : Int} {a N : Nat} {P : List UInt8} (hP : P.length ≤ a) {us : List WI} (hN : a + szN kd * us.length ≤ N) {zs : List ((Int × Nat) × WI)}
    (hz : ∀ j u, us[j]? = some u → zs[j]? = some ((kd, a + szN kd * j), u)) : ∀ j, j ≤ us.length →
    (zs.take j).foldl wrStep (P ++ List.replicate (N - P.length) 0) = (padL P a ++ (us.take j).flatMap (putL kd)) ++ List.replicate (N - (a + szN kd * j)) 0
  | 0, _ => by
    rw [List.take_zero, List.take_zero, List.foldl_nil, List.flatMap_nil, List.append_nil, Nat.mul_zero, Nat.add_zero]
    exact padL_zero hP (by omega)
  | j + 1, hj => by
    have ih := row_field hP hN hz j (by omega)
    obtain ⟨u, hu⟩ : ∃ u, us[j]? = some u := ⟨us[j]'(by omega), by simp [show j < us.length by omega]⟩
    have hm : szN kd * (j + 1) ≤ szN kd * us.length := Nat.mul_le_mul_left _ hj
    rw [Nat.mul_succ] at hm
    rw [take_next (hz j u hu), List.foldl_append, ih, List.foldl_cons, List.foldl_nil, take_next hu, List.flatMap_append]
    have hl : (padL P a ++ (us.take j).flatMap (putL kd)).length = a + szN kd * j := by
      rw [List.length_append, padL_len _ _ hP, flat_len _ (szN kd) _ (fun x _ => putL_len _ x), List.length_take, Nat.min_eq_left (by omega), Nat.mul_comm]
    show wrE _ _ _ = _
    dsimp only
    rw [wrE_pad hl, putL_len, Nat.mul_succ]
    simp only [List.flatMap_cons, List.flatMap_nil, List.append_nil, List.append_assoc]
    rw [show N - (a + szN kd * j) - szN kd = N - (a + (szN kd * j + szN kd)) by omega]
theorem eRun_pre (fs : List Fld) (k : Nat) : ∀ d, k + d ≤ fs.length → ∃ r, eRun (fs.take (k + d)) = eRun (fs.take k) ++ r
  | 0, _ => ⟨[], by rw [List.append_nil]; rfl⟩
  | d + 1, hd => by
    obtain ⟨r, hr⟩ := eRun_pre fs k d (by omega)
    obtain ⟨f, hf⟩ : ∃ f, fs[k + d]? = some f := ⟨fs[k + d], by simp [show k + d < fs.length by omega]⟩
    rw [← Nat.add_assoc, eRun_next hf, hr, List.append_assoc]
    exact ⟨_, rfl⟩
/-- Where an element is. -/
theorem eRun_at {fs : List Fld} {k j : Nat} {f : Fld} (hf : fs[k]? = some f) (hj : j < f.count.toNat) : (eRun fs)[sumN (fs.take k) + j]? = some (f.kind, upN (pRun (fs.take k)).1 (szN f.kind) + szN f.kind * j) := by
  have hk : k < fs.length := (List.getElem?_eq_some_iff.1 hf).1
  obtain ⟨r, hr⟩ := eRun_pre fs (k + 1) (fs.length - (k + 1)) (by omega)
  rw [show k + 1 + (fs.length - (k + 1)) = fs.length by omega, List.take_length, eRun_next hf] at hr
  rw [hr, List.append_assoc, List.getElem?_append_right (by rw [eRun_len]; omega), eRun_len, Nat.add_sub_cancel_left, List.getElem?_append_left (by rw [eAdd_len]; exact hj)]
  unfold eAdd
  rw [List.getElem?_map, List.getElem?_range hj]
  rfl
/-- What an element is. -/
theorem eRun_mem {fs : List Fld} : ∀ k, k ≤ fs.length → ∀ e ∈ eRun (fs.take k), ∃ (m : Nat) (f : Fld) (j : Nat), fs[m]? = some f ∧ j < f.count.toNat ∧ e = (f.kind, upN (pRun (fs.take m)).1 (szN f.kind) + szN f.kind * j)
  | 0, _, e, he => by rw [List.take_zero] at he; cases he
  | k + 1, hk, e, he => by
    obtain ⟨f, hf⟩ : ∃ f, fs[k]? = some f := ⟨fs[k], by simp [show k < fs.length by omega]⟩
    rw [eRun_next hf] at he
    rcases List.mem_append.1 he with h | h
    · exact eRun_mem k (by omega) e h
    · unfold eAdd at h
      obtain ⟨j, hj, rfl⟩ := List.mem_map.1 h
      exact ⟨k, f, j, hf, List.mem_range.1 hj, rfl⟩
theorem sz_kind {k : Int} (h : 1 ≤ szN k) : kindB k = true := by
  cases hk : kindB k
  · exfalso
    have h3 : ¬ (1 ≤ k ∧ k ≤ 10) := of_decide_eq_false hk
    have h2 : sizeK k = 0 := by
      unfold sizeK
      rw [if_neg (by omega), if_neg (by omega), if_neg (by omega), if_neg (by omega)]
    have h5 := sz_cast k
    omega
  · rfl
theorem eRun_in {fs : List Fld} (hok : ∀ f ∈ fs, okF f) {i : Nat} {e : Int × Nat} (he : (eRun fs)[i]? = some e) : kindB e.1 = true ∧ 1 ≤ szN e.1 ∧ e.2 + szN e.1 ≤ pSize fs := by
  obtain ⟨m, f, j, hf, hj, rfl⟩ := eRun_mem fs.length (Nat.le_refl _) e (by rw [List.take_length]; exact List.mem_of_getElem? he)
  have h1 := pSize_ge hok hf hj
  rw [Nat.mul_comm] at h1
  have h2 := (hok f (List.mem_of_getElem? hf)).1
  exact ⟨sz_kind h2, h2, h1⟩
theorem rowN_len {fs : List Fld} (vs : List WI) (hok : ∀ f ∈ fs, okF f) : ∀ n, (rowN fs vs n).length = pSize fs
  | 0 => by unfold rowN; rw [List.take_zero, List.foldl_nil, List.length_replicate]
  | n + 1 => by
    have ih := rowN_len vs hok n
    cases h : ((eRun fs).zip vs)[n]? with
    | none =>
      unfold rowN at ih ⊢
      have h2 := List.getElem?_eq_none_iff.1 h
      rw [List.take_of_length_le h2] at ih
      rwa [List.take_of_length_le (by omega)]
    | some p =>
      obtain ⟨e, v⟩ := p
      have h1 := (List.getElem?_zip_eq_some.1 h).1
      have h2 := eRun_in hok h1
      unfold rowN at ih ⊢
      rw [take_next h, List.foldl_append, List.foldl_cons, List.foldl_nil]
      show (wrE _ _ _).length = _
      rw [wrE_len (by rw [ih, putL_len]; exact h2.2.2), ih]
theorem rowN_next {fs : List Fld} {vs : List WI} {i : Nat} {e : Int × Nat} {v : WI} (he : (eRun fs)[i]? = some e) (hv : vs[i]? = some v) : rowN fs vs (i + 1) = wrE (rowN fs vs i) e.2 (putL e.1 v) := by
  have h : ((eRun fs).zip vs)[i]? = some (e, v) := List.getElem?_zip_eq_some.2 ⟨he, hv⟩
  unfold rowN
  rw [take_next h, List.foldl_append, List.foldl_cons, List.foldl_nil]
  rfl
theorem sumN_app : ∀ (a b : List Fld), sumN (a ++ b) = sumN a + sumN b
  | [], b => by simp [sumN]
  | f :: r, b => by rw [List.cons_append, sumN, sumN, sumN_app r b]; omega
/-- The row, field by field. -/
theorem rowN_field {fs : List Fld} {vs : List WI} (hok : ∀ f ∈ fs, okF f) (hlen : vs.length = sumN fs) : ∀ k, k ≤ fs.length →
    rowN fs vs (sumN (fs.take k)) = (pkRun (fs.take k) vs).1 ++ List.replicate (pSize fs - (pkRun (fs.take k) vs).1.length) 0
  | 0, _ => by rw [List.take_zero]; rfl
  | k + 1, hk => by
    have ih := rowN_field hok hlen k (by omega)
    obtain ⟨f, hf⟩ : ∃ f, fs[k]? = some f := ⟨fs[k], by simp [show k < fs.length by omega]⟩
    obtain ⟨h1, h2, h3⟩ := pk_inv hok hlen k (by omega)
    have ho := hok f (List.mem_of_getElem? hf)
    have hsd : sumN (fs.drop k) = f.count.toNat + sumN (fs.drop (k + 1)) := by rw [drop_next hf]; rfl
    have hc1 : 1 ≤ f.count.toNat := by have := ho.2.1; omega
    have hend := pSize_ge hok hf (j := f.count.toNat - 1) (by omega)
    have hmul : (f.count.toNat - 1) * szN f.kind + szN f.kind = szN f.kind * f.count.toNat := by
      rw [← Nat.succ_mul, Nat.succ_eq_add_one, show f.count.toNat - 1 + 1 = f.count.toNat by omega, Nat.mul_comm]
    have hr : rowN fs vs (sumN (fs.take k) + f.count.toNat) = ((((eRun fs).zip vs).drop (sumN (fs.take k))).take f.count.toNat).foldl wrStep (rowN fs vs (sumN (fs.take k))) := by
      unfold rowN
      rw [List.take_add, List.foldl_append]
    have hus : ((pkRun (fs.take k) vs).2.take f.count.toNat).length = f.count.toNat := by rw [List.length_take, h3]; omega
    rw [sumN_next hf, hr, ih, pkRun_next hf]
    have hP : (pkRun (fs.take k) vs).1.length ≤ upN (pRun (fs.take k)).1 (szN f.kind) := by rw [h2]; exact le_upN _ _ ho.1
    have hrf := row_field (kd := f.kind) (N := pSize fs) (us := (pkRun (fs.take k) vs).2.take f.count.toNat) (zs := ((eRun fs).zip vs).drop (sumN (fs.take k))) hP (by rw [hus]; omega) (fun j u hu => by
      have hj : j < f.count.toNat := by have := (List.getElem?_eq_some_iff.1 hu).1; omega
      rw [List.getElem?_drop, List.getElem?_zip_eq_some]
      refine ⟨eRun_at hf hj, ?_⟩
      rw [List.getElem?_take_of_lt hj, h1, List.getElem?_drop] at hu
      exact hu) f.count.toNat (by omega)
    rw [hrf, List.take_take, Nat.min_self]
    unfold pkStep
    dsimp only
    rw [h2] at hP ⊢
    congr 2
    rw [List.length_append, padL_len _ _ (by rw [h2]; exact hP), flat_len _ (szN f.kind) _ (fun x _ => putL_len _ x), hus, Nat.mul_comm]
theorem rowL_eq {fs : List Fld} {vs : List WI} (hok : ∀ f ∈ fs, okF f) (hlen : vs.length = sumN fs) : rowL fs vs = packL fs vs := by
  have h := rowN_field hok hlen fs.length (Nat.le_refl _)
  rw [List.take_length] at h
  unfold rowL
  rw [eRun_len, h]
  rfl
/-- A value, element by element. -/
theorem unRow_el (fs : List Fld) (s : ByteArray) : unRow fs s = (eRun fs).map (fun e => getV e.1 (elB s e.2 (szN e.1))) := by
  have key : ∀ k, k ≤ fs.length → (unRun s (fs.take k)).2 = (eRun (fs.take k)).map (fun e => getV e.1 (elB s e.2 (szN e.1))) := by
    intro k
    induction k with
    | zero => intro _; rw [List.take_zero]; rfl
    | succ k ih =>
      intro hk
      obtain ⟨f, hf⟩ : ∃ f, fs[k]? = some f := ⟨fs[k], by simp [show k < fs.length by omega]⟩
      have hi := (un_inv s fs k (by omega)).1
      rw [unRun_next hf, eRun_next hf, List.map_append, ← ih (by omega)]
      unfold unStep
      dsimp only
      rw [hi]
      congr 1
      unfold unEl eAdd
      rw [List.map_map]
      refine List.map_congr_left fun i _ => ?_
      show getV _ _ = getV _ _
      rw [Nat.mul_comm]
  have := key fs.length (Nat.le_refl _)
  rw [List.take_length] at this
  exact this
theorem unRow_at {fs : List Fld} {s : ByteArray} {i : Nat} {e : Int × Nat} (he : (eRun fs)[i]? = some e) : (unRow fs s)[i]? = some (getV e.1 (elB s e.2 (szN e.1))) := by
  rw [unRow_el, List.getElem?_map, he]; rfl
theorem unRow_len (fs : List Fld) (s : ByteArray) : (unRow fs s).length = sumN fs := by rw [unRow_el, List.length_map, eRun_len]
theorem un_no {fs : List Fld} {s : ByteArray} {i : Nat} {e : Int × Nat} (he : (eRun fs)[i]? = some e) (hb : fitsB e.1 (getV e.1 (elB s e.2 (szN e.1))) = false) : unOk fs s = false := by
  unfold unOk
  rw [fit_no (unRow_len fs s) he (unRow_at he) hb]; rfl
theorem un_yes {fs : List Fld} {s : ByteArray} (h : ∀ (i : Nat) (e : Int × Nat), (eRun fs)[i]? = some e → fitsB e.1 (getV e.1 (elB s e.2 (szN e.1))) = true) : unOk fs s = decide ((⟨(packL fs (unRow fs s)).toArray⟩ : ByteArray) = s) := by
  unfold unOk
  rw [fit_yes (unRow_len fs s) (fun i e v he hv => by
    rw [unRow_at he] at hv
    injection hv with hv
    rw [← hv]; exact h i e he), Bool.true_and]
end Go.Proofs.YtfehiclbcebnoaaGreat

namespace Go.Proofs.YtfehiclbcebnoaaGreat
open Go.RowKit Go.Proofs.Heap Go.Proofs.Sch Go.Proofs.Wide

theorem leL_mod (k m : Nat) : leL k (m % 256 ^ k) = leL k m := by
  have h := leL_leN (leL k m)
  rw [leL_len, leN_leL] at h
  exact h
theorem putL_word (k : Int) (x : WI) : putL k x = leL (szN k) (wordN x) := leL_mod _ _
theorem run_bytes_own {w : World} {base : Nat} {sv : Value} {l : List UInt8} (h : w.ownsRow base 5 1 sv l.length (l.map byteV)) :
    (convert 59 9 sv).run Tryz.prog w = .ok (.string ⟨l.toArray⟩) w := by
  rcases owns_block h with ⟨rfl, h0, h1⟩ | ⟨g, cap, cur, rfl, _, hg, _⟩
  · obtain rfl : l = [] := by simpa using h1
    kernel_rfl
  · refine run_bytes_string w _ _ 5 (by kernel_rfl) (by kernel_rfl) (by kernel_rfl) g 0 _ cap l rfl fun i x hx => ?_
    rw [Nat.zero_add, owns_cell h (List.getElem?_eq_some_iff.1 hx).1, List.getElem?_map, hx]
    rfl

set_option maxRecDepth 20000 in
set_option maxHeartbeats 8000000 in
theorem r_put (k : Int) (x : WI) (w : World) (hx : x.fit) : Calls Tryz.prog 53 #[.int .i64 k, WV x] w fun r w' => r = .returned (.string ⟨(putL k x).toArray⟩) ∧ Keep (fun _ => False) w w' := by
  obtain ⟨i0, hi0, hz0, hz1, hz2⟩ := info_parts' info_u8
  have HX := hid hx
  have hlo : x.lo < 18446744073709551616 := hx.2
  clear hx
  go_enter Tryz.func53, Tryz.ntmps53
  obtain ⟨w1, hw1, hb1, hs1, hk1⟩ := box1 w (WC x) 54
  have HK1 := hid hk1
  have HL1 : Hid (w.heap.size ≤ w1.heap.size) := hid hk1.size
  have c0 : w1.cell? ⟨w.heap.size, 0, none⟩ = some (.bool x.neg) := cell_of hb1 (by rfl)
  have c2 : w1.cell? ⟨w.heap.size, 2, none⟩ = some (.int .u64 (x.lo : Int)) := cell_of hb1 (by rfl)
  clear hb1 hs1 hk1
  go_upto_region 1 with fail
  rw [← hw1]
  clear hw1
  generalize hq : w.heap.size = q at *
  have HQ := hid hq
  clear hq
  go_upto_if 11 with fail
  go_cut [5] from 8 to 14 (fun v wx => v = .int .u64 (wordN x : Int) ∧ w1 = wx)
  case first =>
    obtain ⟨ng, hi, lo⟩ := x
    simp only at c0 c2 hlo
    cases ng
    · go_wp2
      go_meet
      case rel => exact ⟨rfl, rfl⟩
    · have hwr := wrap_neg lo hlo
      go_wp2
      go_meet
      case rel => exact ⟨by first | rfl | (rw [show wordN ⟨true, hi, lo⟩ = (18446744073709551616 - lo) % 18446744073709551616 from rfl, ← hwr]; simp), rfl⟩
  case rest =>
  obtain ⟨rfl, rfl⟩ := hcut
  clear c0 c2
  have HN := hid (wordN_lt HX.out)
  have HP := hid (putL_word k x)
  have HSC := hid (sz_cast k)
  have HZ8 := hid (sz_le k)
  generalize wordN x = n at *
  generalize hz : szN k = z at *
  go_wp2_with fail
  go_loopw [5, 6, 7] (fun m b i wr => ∃ (j m' : Nat) (l : List UInt8), j ≤ z ∧ i = iV j ∧ m = .int .u64 (m' : Int) ∧ m' = n / 256 ^ j ∧ m' < 18446744073709551616 ∧ l = leL j n ∧ wr.ownsRow w1.heap.size 5 1 b l.length (l.map byteV) ∧ Keep (fun _ => False) w1 wr) (fun _ _ i _ => z + 1 - (intOf i).toNat)
  case atStart => exact ⟨0, n, [], Nat.zero_le _, rfl, rfl, by simp, HN.out, rfl, World.ownsRow_made w1 #[] 0 (Nat.le_refl _) (by unfold maxLen; omega) (by simp), (Keep.refl _ _).alloc _⟩
  case round =>
    obtain ⟨j, m, l, hj, rfl, rfl, hm, hm64, hl, hown, hk⟩ := hrel
    have HM := hid hm; have HM64 := hid hm64
    have hbv : Value.int .u8 ((m : Int) % 256) = byteV (UInt8.ofNat m) := by
      unfold byteV
      congr 1
    have HBV := hid hbv
    clear hm hm64 hbv
    obtain ⟨vp, vc, rfl⟩ := owns_val hown
    have HL : Hid (l.length = j) := hid (by rw [hl, leL_len])
    have HO := hid hown; have HK := hid hk; have HE := hid hl
    clear hown hk hl
    go_wp2_with fail
    refine (r_bytes k _).mono ?_
    rintro r w2 ⟨rfl, hk2⟩
    have HK2 := hid (HK.out.trans hk2); have HO2 := hid (owns_keep HO.out (fun i hi => hk2.block i (HO.out.lt i hi).2 id))
    clear hk2
    rw [HSC.out]
    by_cases hlt : j < z
    · have g1 : decide ((j : Int) < (z : Int)) = true := decide_eq_true (by omega)
      have g2 : decide (j < z) = true := decide_eq_true hlt
      have hz8 := HZ8.out; have hm64 := HM64.out
      have hwm : IntKind.u64.wrap ((m : Int) / 256) = ((m / 256 : Nat) : Int) := by simp [IntKind.wrap, IntKind.bits, IntKind.signed]; omega
      go_wp2_with (at_builtin; go_loud (refine wpList_append_rd rfl (.tmp 22) (.tmp 26) _ rfl w1.heap.size _ i0 _ 1 1 Tryz.underlying59 hi0 hz0 hz1 hz2 rfl (by decide) _ l.length _ (by rfl) (HO2.out.alloc _) _ 1 _ (by rfl) (rd_block (heap_alloc_new w2 _) (by simp) (by simp [Value.oneCell'])) (by unfold maxLen; have := HL.out; have := HZ8.out; omega) (by have := HL.out; have := HZ8.out; omega) (by have := HK2.out.size; simp; omega) ?_); go_loud (intro v' w5 hown5 hgrow5 hat5 hn5; obtain ⟨vq, vd, rfl⟩ := owns_val hown5; have HO5 := hid hown5; have HG5 := hid hgrow5; clear hown5 hgrow5 hat5 hn5))
      have HR : Hid (w5.ownsRow w1.heap.size 5 1 (.slice vq (l.length + 1) vd) (leL (j + 1) n).length ((leL (j + 1) n).map byteV)) := hid (by
        rw [leL_next, List.length_append, List.map_append, ← HM.out, ← HE.out]
        have h := HO5.out
        rw [HBV.out] at h
        exact h)
      have HK5 : Hid (Keep (fun _ => False) w1 w5) := hid (Keep.grown_alloc HG5.out (fun i hi => (HO2.out.lt i hi).1) HK2.out)
      have HLN : Hid (l.length + 1 = (leL (j + 1) n).length) := hid (by rw [leL_len, HL.out])
      go_wp2
      go_roundw
      case rel => exact ⟨j + 1, m / 256, leL (j + 1) n, by omega, by go_num, by simp, by rw [HM.out, Nat.div_div_eq_div_mul, Nat.pow_succ], by have := HM64.out; omega, rfl, HR.out, HK5.out⟩
      case measure => simp [intOf]; omega
    · obtain rfl : j = z := by omega
      have g1 : decide ((j : Int) < (j : Int)) = false := decide_eq_false (by omega)
      have g2 : decide (j < j) = false := decide_eq_false (by omega)
      have hrun := run_bytes_own HO2.out
      go_wp2
      go_ret
      exact ⟨by rw [HP.out, ← HE.out]; rfl, HK1.out.trans HK2.out⟩
end Go.Proofs.YtfehiclbcebnoaaGreat
