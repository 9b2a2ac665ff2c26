/- What is proved: the reference's Fits of a kind and a number answers what the program's does. -/
import Derived.Test.YtkgkcnmnfhehfaaRef04
import Derived.Test.YtkgkcnmnfhehfaaRef04b
import Derived.Test.YtkgkcnmnfhehfaaRef01c
namespace Go.Proofs.Ytkgkcnmnfhehfaa
open Go.RowKit Go.Proofs.Heap Go.Proofs.Wide

theorem sizeK_pos {k : Int} (h1 : 1 ≤ k) (h2 : k ≤ 10) : sizeK k ≠ 0 := by
  unfold sizeK
  by_cases a : k = 1 ∨ k = 2 ∨ k = 6
  · rw [if_pos a]; decide
  · rw [if_neg a]
    by_cases b : k = 3 ∨ k = 7
    · rw [if_pos b]; decide
    · rw [if_neg b]
      by_cases c : k = 4 ∨ k = 8
      · rw [if_pos c]; decide
      · rw [if_neg c, if_pos (by omega)]; decide

set_option maxRecDepth 20000 in
set_option maxHeartbeats 4000000 in
theorem r_fits (k : Int) (x : WI) (hx : x.fit) (w : World) : Calls Try.prog 26 #[.int .i64 k, WV x] w fun r w' => r = .returned (.bool (fitsB k x)) ∧ Keep (fun _ => False) w w' := by
  have HB0 := hid (heap_alloc_new w (.cells (WC x) 57))
  have HK0 := hid ((Keep.refl (fun _ => False) w).alloc (.cells (WC x) 57))
  have HXF := hid hx
  clear hx
  have hfb : fitsB k x = (kindB k && (x.form && (decide (0 ≤ cmpW x (leastW k)) && decide (cmpW x (greatW k) ≤ 0)))) := rfl
  rw [hfb]
  clear hfb
  obtain ⟨xn, xh, xl⟩ := x
  go_enter Try.func26, Try.ntmps26
  go_upto_region 1 with fail
  generalize w.alloc (.cells #[.bool xn, .int .u64 (xh : Int), .int .u64 (xl : Int)] 57) = w0 at *
  generalize w.heap.size = sb at *
  have HW : Hid (∀ wy, Keep (fun _ => False) w0 wy → wy.cell? ⟨sb, 0, none⟩ = some (.bool xn) ∧ wy.cell? ⟨sb, 1, none⟩ = some (.int .u64 (xh : Int)) ∧ wy.cell? ⟨sb, 2, none⟩ = some (.int .u64 (xl : Int))) := hid (fun wy hk =>
    ⟨cell_of (hk.get HB0.out id) (by rfl), cell_of (hk.get HB0.out id) (by rfl), cell_of (hk.get HB0.out id) (by rfl)⟩)
  go_wp2_with fail
  refine (r_bytes k _).mono ?_
  rintro r w1 ⟨rfl, hk1⟩
  have HK1 := hid hk1
  clear hk1
  by_cases hr : 1 ≤ k ∧ k ≤ 10
  rotate_left
  · have G : Hid (kindB k = false) := hid (decide_eq_false hr)
    rw [sizeK_out (show k < 1 ∨ 10 < k by omega)]
    clear hr
    go_wp2
    go_ret
    exact ⟨by rw [G.out]; rfl, HK0.out.trans HK1.out⟩
  have HR := hid hr
  have HKB : Hid (kindB k = true) := hid (decide_eq_true hr)
  have hsz := sizeK_pos hr.1 hr.2
  clear hr
  generalize sizeK k = z at *
  have g1 : (z == 0) = false := beq_eq_false_iff_ne.2 hsz
  clear hsz
  obtain ⟨s0, s1, s2⟩ := HW.out _ HK1.out
  go_wp2_with fail
  refine (r_good ⟨xn, xh, xl⟩ HXF.out _).mono ?_
  rintro r w2 ⟨rfl, hk2⟩
  have HK2 := hid (HK1.out.trans hk2)
  clear hk2 g1 s0 s1 s2
  cases hfm : WI.form ⟨xn, xh, xl⟩
  · have HFM := hid hfm
    clear hfm
    go_wp2
    go_ret
    exact ⟨by rw [HKB.out, HFM.out]; rfl, HK0.out.trans HK2.out⟩
  have HFM := hid hfm
  clear hfm
  go_wp2_with fail
  refine (r_bounds k HR.out.1 HR.out.2 _).mono ?_
  rintro r w3 ⟨rfl, hk3⟩
  have HK3 := hid (HK2.out.trans hk3)
  have HLF := hid (leastW_fit k); have HLO := hid (leastW_form k); have HGF := hid (greatW_fit k); have HGO := hid (greatW_form k)
  clear hk3
  generalize hlw : leastW k = lw at *
  generalize hgw : greatW k = gw at *
  have HLW := hid hlw; have HGW := hid hgw
  clear hlw hgw
  obtain ⟨ln, lh, ll⟩ := lw
  obtain ⟨gn, gh, gl⟩ := gw
  have hb1 := heap_alloc_new w3 (.cells #[.bool ln, .int .u64 (lh : Int), .int .u64 (ll : Int)] 57)
  have hb2 := heap_alloc_new (w3.alloc (.cells #[.bool ln, .int .u64 (lh : Int), .int .u64 (ll : Int)] 57)) (.cells #[.bool gn, .int .u64 (gh : Int), .int .u64 (gl : Int)] 57)
  have e1 : (w3.alloc (.cells #[.bool ln, .int .u64 (lh : Int), .int .u64 (ll : Int)] 57)).heap.size = w3.heap.size + 1 := by simp
  have hb1' := ((Keep.refl (fun _ => False) (w3.alloc (.cells #[.bool ln, .int .u64 (lh : Int), .int .u64 (ll : Int)] 57))).alloc (.cells #[.bool gn, .int .u64 (gh : Int), .int .u64 (gl : Int)] 57)).get hb1 id
  rw [e1] at hb2
  have HB1 := hid hb1'; have HB2 := hid hb2
  have HK4 := hid ((HK3.out.alloc (.cells #[.bool ln, .int .u64 (lh : Int), .int .u64 (ll : Int)] 57)).alloc (.cells #[.bool gn, .int .u64 (gh : Int), .int .u64 (gl : Int)] 57))
  clear hb1 hb2 hb1' e1
  go_upto_region 4 with fail
  generalize (w3.alloc (.cells #[.bool ln, .int .u64 (lh : Int), .int .u64 (ll : Int)] 57)).alloc (.cells #[.bool gn, .int .u64 (gh : Int), .int .u64 (gl : Int)] 57) = w4 at *
  generalize w3.heap.size = bb at *
  have HX : Hid (∀ wy, Keep (fun _ => False) w4 wy → wy.cell? ⟨bb, 0, none⟩ = some (.bool ln) ∧ wy.cell? ⟨bb, 1, none⟩ = some (.int .u64 (lh : Int)) ∧ wy.cell? ⟨bb, 2, none⟩ = some (.int .u64 (ll : Int)) ∧ wy.cell? ⟨bb + 1, 0, none⟩ = some (.bool gn) ∧ wy.cell? ⟨bb + 1, 1, none⟩ = some (.int .u64 (gh : Int)) ∧ wy.cell? ⟨bb + 1, 2, none⟩ = some (.int .u64 (gl : Int))) := hid (fun wy hk =>
    ⟨cell_of (hk.get HB1.out id) (by rfl), cell_of (hk.get HB1.out id) (by rfl), cell_of (hk.get HB1.out id) (by rfl), cell_of (hk.get HB2.out id) (by rfl), cell_of (hk.get HB2.out id) (by rfl), cell_of (hk.get HB2.out id) (by rfl)⟩)
  obtain ⟨s0, s1, s2⟩ := HW.out _ HK4.out
  obtain ⟨t0, t1, t2, t3, t4, t5⟩ := HX.out _ (Keep.refl (fun _ => False) w4)
  go_wp2_with fail
  refine (r_cmp ⟨xn, xh, xl⟩ ⟨ln, lh, ll⟩ HXF.out HLF.out HFM.out HLO.out _).mono ?_
  rintro r w5 ⟨rfl, hk5⟩
  have HK5 := hid hk5
  clear hk5 s0 s1 s2 t0 t1 t2 t3 t4 t5
  by_cases hc1 : 0 ≤ cmpW ⟨xn, xh, xl⟩ ⟨ln, lh, ll⟩
  rotate_left
  · have HQ : Hid ((kindB k && (WI.form ⟨xn, xh, xl⟩ && (decide (0 ≤ cmpW ⟨xn, xh, xl⟩ (leastW k)) && decide (cmpW ⟨xn, xh, xl⟩ (greatW k) ≤ 0)))) = false) := hid (by
      rw [HKB.out, HFM.out, HLW.out, decide_eq_false hc1]; rfl)
    generalize cmpW ⟨xn, xh, xl⟩ ⟨ln, lh, ll⟩ = z1 at *
    have g1 : decide (0 ≤ z1) = false := decide_eq_false hc1
    go_wp2
    go_ret
    exact ⟨by rw [HQ.out]; rfl, HK0.out.trans (HK4.out.trans HK5.out)⟩
  have G := hid (decide_eq_true hc1)
  have HC1 := hid hc1
  generalize hz1 : cmpW ⟨xn, xh, xl⟩ ⟨ln, lh, ll⟩ = z1 at *
  have g1 : decide (0 ≤ z1) = true := decide_eq_true hc1
  have HZ1 := hid hz1
  clear hz1
  obtain ⟨s0, s1, s2⟩ := HW.out _ (HK4.out.trans HK5.out)
  obtain ⟨t0, t1, t2, t3, t4, t5⟩ := HX.out _ HK5.out
  go_wp2_with fail
  refine (r_cmp ⟨xn, xh, xl⟩ ⟨gn, gh, gl⟩ HXF.out HGF.out HFM.out HGO.out _).mono ?_
  rintro r w6 ⟨rfl, hk6⟩
  have HK6 := hid (HK5.out.trans hk6)
  clear hk6 s0 s1 s2 t0 t1 t2 t3 t4 t5
  have HQ : Hid ((kindB k && (WI.form ⟨xn, xh, xl⟩ && (decide (0 ≤ cmpW ⟨xn, xh, xl⟩ (leastW k)) && decide (cmpW ⟨xn, xh, xl⟩ (greatW k) ≤ 0)))) = decide (cmpW ⟨xn, xh, xl⟩ ⟨gn, gh, gl⟩ ≤ 0)) := hid (by
    rw [HKB.out, HFM.out, HLW.out, HGW.out, HZ1.out, G.out]; rfl)
  generalize cmpW ⟨xn, xh, xl⟩ ⟨gn, gh, gl⟩ = z2 at *
  go_wp2
  go_ret
  exact ⟨by rw [HQ.out]; rfl, HK0.out.trans (HK4.out.trans HK6.out)⟩
end Go.Proofs.Ytkgkcnmnfhehfaa
