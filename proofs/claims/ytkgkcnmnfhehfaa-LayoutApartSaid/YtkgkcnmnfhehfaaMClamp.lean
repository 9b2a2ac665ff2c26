/- What is proved: what field.Clamp of a kind and a number answers: a number that fits. -/
import Derived.Test.YtkgkcnmnfhehfaaMRef05b
import Derived.Test.YtkgkcnmnfhehfaaMSchFind
import Derived.Deep.Cut
import Derived.Deep.CutRange
import Derived.Deep.CutBlock
import Derived.Laws.StructEq
namespace Go.Proofs.Ytkgkcnmnfhehfaa
open Go.RowKit Go.Proofs.Heap Go.Proofs.Sch Go.Proofs.Wide

/-- The number of a kind that is nearest. -/
def clampW (k : Int) (x : WI) : WI := if x.form = false then ⟨false, 0, 0⟩ else if cmpW x (leastW k) < 0 then leastW k else if 0 < cmpW x (greatW k) then greatW k else x
theorem cmpI_refl (a : Int) : cmpI a a = 0 := by unfold cmpI; rw [if_neg (by omega), if_pos rfl]
theorem least_fit (k : Int) : (leastW k).fit := by
  unfold leastW
  split
  · rename_i h
    have := greatN_sign h
    exact ⟨by show (0 : Nat) < 18446744073709551616; omega, by show greatN k + 1 < 18446744073709551616; omega⟩
  · exact ⟨by show (0 : Nat) < 18446744073709551616; omega, by show (0 : Nat) < 18446744073709551616; omega⟩
theorem great_fit (k : Int) : (greatW k).fit := ⟨by show (0 : Nat) < 18446744073709551616; omega, greatN_lt k⟩
theorem clamp_fit {k : Int} {x : WI} (hx : x.fit) : (clampW k x).fit := by
  unfold clampW
  split
  · exact ⟨by show (0 : Nat) < 18446744073709551616; omega, by show (0 : Nat) < 18446744073709551616; omega⟩
  · split
    · exact least_fit k
    · split
      · exact great_fit k
      · exact hx
theorem least_great (k : Int) : (leastW k).val ≤ (greatN k : Int) := by
  cases hs : signK k
  · rw [least_uns hs]; omega
  · rw [least_sgn hs]; omega
theorem clamp_fits {k : Int} (hk : kindB k = true) (x : WI) : fitsB k (clampW k x) = true := by
  have hg : (greatW k).val = (greatN k : Int) := by simp [greatW, WI.val, WI.mag]
  unfold clampW
  by_cases h1 : x.form = false
  · rw [if_pos h1]
    have h0 : (WI.mk false 0 0).val = 0 := by simp [WI.val, WI.mag]
    refine fits_of hk (pos_form 0) ?_ ?_
    · rw [h0]
      cases hs : signK k
      · rw [least_uns hs]; omega
      · rw [least_sgn hs]; omega
    · rw [h0]; omega
  · rw [if_neg h1]
    by_cases h2 : cmpW x (leastW k) < 0
    · rw [if_pos h2]
      exact fits_of hk (leastW_form k) (Int.le_refl _) (least_great k)
    · rw [if_neg h2]
      by_cases h3 : 0 < cmpW x (greatW k)
      · rw [if_pos h3]
        exact fits_of hk (greatW_form k) (by rw [hg]; exact least_great k) (by rw [hg]; omega)
      · rw [if_neg h3]
        have hf : x.form = true := by cases h : x.form <;> simp_all
        unfold fitsB
        rw [hk, hf, decide_eq_true (by omega : 0 ≤ cmpW x (leastW k)), decide_eq_true (by omega : cmpW x (greatW k) ≤ 0)]
        rfl

set_option maxRecDepth 20000 in
set_option maxHeartbeats 4000000 in
theorem f_clamp (k : Int) (hk : kindB k = true) (x : WI) (hx : x.fit) (w : World) : Calls Try.prog 24 #[.int .i64 k, WV x] w fun r w' => r = .returned (WV (clampW k x)) ∧ Keep (fun _ => False) w w' := by
  have HX := hid hx; have HK := hid hk
  have hkr : 1 ≤ k ∧ k ≤ 10 := of_decide_eq_true hk
  have HKR := hid hkr
  have HC : Hid (clampW k x = if x.form = false then ⟨false, 0, 0⟩ else if cmpW x (leastW k) < 0 then leastW k else if 0 < cmpW x (greatW k) then greatW k else x) := hid rfl
  generalize clampW k x = cw at *
  clear hx hk hkr
  go_enter Try.func24, Try.ntmps24
  obtain ⟨w1, hw1, hb1, hb2, hs1, hk1⟩ := box2 w (WC x) Z3 57 57
  have HB1 := hid hb1; have HB2 := hid hb2; have HK1 := hid hk1
  clear hb1 hb2 hs1 hk1
  go_upto_block 0 with fail
  rw [← hw1]
  clear hw1
  have HW : Hid (w.heap.size ≤ w.heap.size + 1) := hid (by omega)
  generalize w.heap.size + 1 = rb at *
  generalize hxb : w.heap.size = xb at *
  have HF : Hid (∀ wy, Keep (fun _ => False) w1 wy → (wy.cell? ⟨xb, 0, none⟩ = some (.bool x.neg) ∧ wy.cell? ⟨xb, 1, none⟩ = some (.int .u64 (x.hi : Int)) ∧ wy.cell? ⟨xb, 2, none⟩ = some (.int .u64 (x.lo : Int)))) := hid (fun wy hk =>
    ⟨cell_of (hk.get HB1.out (fun h => h)) (by rfl), cell_of (hk.get HB1.out (fun h => h)) (by rfl), cell_of (hk.get HB1.out (fun h => h)) (by rfl)⟩)
  obtain ⟨a0, a1, a2⟩ := HF.out _ (Keep.refl _ _)
  have HW : Hid (w.heap.size ≤ rb) := hid (by rw [hxb]; exact HW.out)
  clear hxb
  go_wp2_with fail
  refine (is_kind k _).mono ?_
  rintro r w_ ⟨rfl, rfl⟩
  rw [HK.out]
  go_wp2_with fail
  refine (w_form x HX.out _).mono ?_
  rintro r w2 ⟨rfl, hk2⟩
  have HK2 := hid (HK1.out.trans hk2); have HR2 := hid (hk2.get HB2.out id); have HKK2 := hid hk2
  clear hk2 a0 a1 a2
  cases hfm : x.form
  · have G : Hid (cw = ⟨false, 0, 0⟩) := hid (by rw [HC.out, if_pos hfm])
    clear hfm
    have f0 := free_of HR2.out 0
    have f1 := free_of HR2.out 1
    have f2 := free_of HR2.out 2
    have r0 := cell_of HR2.out (i := 0) (by rfl)
    have r1 := cell_of HR2.out (i := 1) (by rfl)
    have r2 := cell_of HR2.out (i := 2) (by rfl)
    go_wp2
    (try simp only [Exit.inBlock, Exit.then])
    refine bodyPost_ret (results_c rfl _ rfl (run_loadVar_row _ rb _ 57 _ _ _ (cells3 (.bool false) (.int .u64 0) (.int .u64 0) HR2.out) Try.underlying57 rfl (by kernel_rfl))) rfl ?_
    exact ⟨by rw [G.out]; rfl, ((HK2.out.setCell_new (p := ⟨rb, 0, none⟩) HW.out _).setCell_new (p := ⟨rb, 1, none⟩) HW.out _).setCell_new (p := ⟨rb, 2, none⟩) HW.out _⟩
  have HC2 : Hid (cw = if cmpW x (leastW k) < 0 then leastW k else if 0 < cmpW x (greatW k) then greatW k else x) := hid (by rw [HC.out, if_neg (by rw [hfm]; simp)])
  clear HC hfm
  obtain ⟨a0, a1, a2⟩ := HF.out _ HKK2.out.drew
  go_wp2_with fail
  refine Plan.wp_region_pl [(false, 0, []), (false, 1, []), (true, 2, [0]), (true, 3, []), (false, 4, []), (false, 5, [])] (by as_aux_lemma => kernel_rfl) (by as_aux_lemma => kernel_rfl) ?_
  iterate 2 (refine Plan.pl_st rfl ?_; go_big_quiet_step (fail); refine wpQuiet_nil ?_)
  refine Plan.pl_ac rfl ?_
  go_wp2_with fail
  refine (f_least k HKR.out.1 HKR.out.2 _).mono ?_
  rintro r w3 ⟨rfl, hk3⟩
  have HK3 := hid (HK2.out.drew.trans hk3); have HR3 := hid (hk3.get HR2.out id); have HKK3 := hid (HKK2.out.drew.trans hk3)
  clear hk3 a0 a1 a2
  obtain ⟨a0, a1, a2⟩ := HF.out _ HKK3.out
  go_wp2
  refine Plan.plQ_mk ?_ ?_
  · iterate 1 (refine Plan.chk_st rfl ?_ ?_; focus (go_big_quiet_step (fail); exact wpQuiet_nil rfl))
    exact Plan.chk_end
  refine Plan.pl_ac rfl ?_
  go_wp2_with fail
  refine (w_cmp x (leastW k) HX.out (least_fit k) _).mono ?_
  rintro r w4 ⟨rfl, hk4⟩
  have HK4 := hid (HK3.out.trans hk4); have HR4 := hid (hk4.get HR3.out id); have HKK4 := hid (HKK3.out.trans hk4)
  clear hk4 a0 a1 a2
  generalize hc1 : cmpW x (leastW k) = c1 at *
  clear hc1
  go_wp2
  refine Plan.plQ_mk Plan.chk_end ?_
  by_cases h1 : c1 < 0
  · have g1 : decide (c1 < 0) = true := decide_eq_true h1
    have G : Hid (cw = leastW k) := hid (by rw [HC2.out, if_pos h1])
    clear h1
    iterate 2 (refine Plan.pl_st rfl ?_; go_big_quiet_step (fail); refine wpQuiet_nil ?_)
    refine Plan.pl_end ?_
    go_wp2_with fail
    refine (f_least k HKR.out.1 HKR.out.2 _).mono ?_
    rintro r w5 ⟨rfl, hk5⟩
    have HK5 := hid (HK4.out.trans hk5); have HR5 := hid (hk5.get HR4.out id)
    clear hk5
    generalize leastW k = y at *
    have f0 := free_of HR5.out 0
    have f1 := free_of HR5.out 1
    have f2 := free_of HR5.out 2
    have r0 := cell_of HR5.out (i := 0) (by rfl)
    have r1 := cell_of HR5.out (i := 1) (by rfl)
    have r2 := cell_of HR5.out (i := 2) (by rfl)
    go_wp2
    (try simp only [Exit.inBlock, Exit.then])
    refine bodyPost_ret (results_c rfl _ rfl (run_loadVar_row _ rb _ 57 _ _ _ (cells3 (.bool y.neg) (.int .u64 (y.hi : Int)) (.int .u64 (y.lo : Int)) HR5.out) Try.underlying57 rfl (by kernel_rfl))) rfl ?_
    exact ⟨by rw [G.out], ((HK5.out.setCell_new (p := ⟨rb, 0, none⟩) HW.out _).setCell_new (p := ⟨rb, 1, none⟩) HW.out _).setCell_new (p := ⟨rb, 2, none⟩) HW.out _⟩
  have g1 : decide (c1 < 0) = false := decide_eq_false h1
  have HC3 : Hid (cw = if 0 < cmpW x (greatW k) then greatW k else x) := hid (by rw [HC2.out, if_neg h1])
  clear h1 HC2
  iterate 2 (refine Plan.pl_st rfl ?_; go_big_quiet_step (fail); refine wpQuiet_nil ?_)
  refine Plan.pl_end ?_
  obtain ⟨a0, a1, a2⟩ := HF.out _ HKK4.out.drew
  go_wp2_with fail
  clear g1
  refine Plan.wp_region_pl [(false, 0, []), (false, 1, []), (true, 2, [0]), (true, 3, []), (false, 4, []), (false, 5, [])] (by as_aux_lemma => kernel_rfl) (by as_aux_lemma => kernel_rfl) ?_
  iterate 2 (refine Plan.pl_st rfl ?_; go_big_quiet_step (fail); refine wpQuiet_nil ?_)
  refine Plan.pl_ac rfl ?_
  go_wp2_with fail
  refine (f_great k HKR.out.1 HKR.out.2 _).mono ?_
  rintro r w5 ⟨rfl, hk5⟩
  have HK5 := hid (HK4.out.drew.trans hk5); have HR5 := hid (hk5.get HR4.out id); have HKK5 := hid (HKK4.out.drew.trans hk5)
  clear hk5 a0 a1 a2
  obtain ⟨a0, a1, a2⟩ := HF.out _ HKK5.out
  go_wp2
  refine Plan.plQ_mk ?_ ?_
  · iterate 1 (refine Plan.chk_st rfl ?_ ?_; focus (go_big_quiet_step (fail); exact wpQuiet_nil rfl))
    exact Plan.chk_end
  refine Plan.pl_ac rfl ?_
  go_wp2_with fail
  refine (w_cmp x (greatW k) HX.out (great_fit k) _).mono ?_
  rintro r w6 ⟨rfl, hk6⟩
  have HK6 := hid (HK5.out.trans hk6); have HR6 := hid (hk6.get HR5.out id); have HKK6 := hid (HKK5.out.trans hk6)
  clear hk6 a0 a1 a2
  generalize hc2 : cmpW x (greatW k) = c2 at *
  clear hc2
  go_wp2
  refine Plan.plQ_mk Plan.chk_end ?_
  by_cases h2 : 0 < c2
  · have g1 : decide (0 < c2) = true := decide_eq_true h2
    have G : Hid (cw = greatW k) := hid (by rw [HC3.out, if_pos h2])
    clear h2
    iterate 2 (refine Plan.pl_st rfl ?_; go_big_quiet_step (fail); refine wpQuiet_nil ?_)
    refine Plan.pl_end ?_
    go_wp2_with fail
    refine (f_great k HKR.out.1 HKR.out.2 _).mono ?_
    rintro r w7 ⟨rfl, hk7⟩
    have HK7 := hid (HK6.out.trans hk7); have HR7 := hid (hk7.get HR6.out id)
    clear hk7
    have G2 : Hid (cw = ⟨false, 0, greatN k⟩) := hid G.out
    generalize greatN k = gn at *
    have f0 := free_of HR7.out 0
    have f1 := free_of HR7.out 1
    have f2 := free_of HR7.out 2
    have r0 := cell_of HR7.out (i := 0) (by rfl)
    have r1 := cell_of HR7.out (i := 1) (by rfl)
    have r2 := cell_of HR7.out (i := 2) (by rfl)
    go_wp2
    (try simp only [Exit.inBlock, Exit.then])
    refine bodyPost_ret (results_c rfl _ rfl (run_loadVar_row _ rb _ 57 _ _ _ (cells3 (.bool false) (.int .u64 ((0 : Nat) : Int)) (.int .u64 (gn : Int)) HR7.out) Try.underlying57 rfl (by kernel_rfl))) rfl ?_
    exact ⟨by rw [G2.out], ((HK7.out.setCell_new (p := ⟨rb, 0, none⟩) HW.out _).setCell_new (p := ⟨rb, 1, none⟩) HW.out _).setCell_new (p := ⟨rb, 2, none⟩) HW.out _⟩
  have g1 : decide (0 < c2) = false := decide_eq_false h2
  have G : Hid (cw = x) := hid (by rw [HC3.out, if_neg h2])
  clear h2
  iterate 2 (refine Plan.pl_st rfl ?_; go_big_quiet_step (fail); refine wpQuiet_nil ?_)
  refine Plan.pl_end ?_
  obtain ⟨a0, a1, a2⟩ := HF.out _ HKK6.out
  have f0 := free_of HR6.out 0
  have f1 := free_of HR6.out 1
  have f2 := free_of HR6.out 2
  have r0 := cell_of HR6.out (i := 0) (by rfl)
  have r1 := cell_of HR6.out (i := 1) (by rfl)
  have r2 := cell_of HR6.out (i := 2) (by rfl)
  go_wp2
  (try simp only [Exit.inBlock, Exit.then])
  refine bodyPost_ret (results_c rfl _ rfl (run_loadVar_row _ rb _ 57 _ _ _ (cells3 (.bool x.neg) (.int .u64 (x.hi : Int)) (.int .u64 (x.lo : Int)) HR6.out) Try.underlying57 rfl (by kernel_rfl))) rfl ?_
  exact ⟨by rw [G.out], ((HK6.out.setCell_new (p := ⟨rb, 0, none⟩) HW.out _).setCell_new (p := ⟨rb, 1, none⟩) HW.out _).setCell_new (p := ⟨rb, 2, none⟩) HW.out _⟩
end Go.Proofs.Ytkgkcnmnfhehfaa

namespace Go.Proofs.Ytkgkcnmnfhehfaa
open Go.RowKit Go.Proofs.Heap Go.Proofs.Sch Go.Proofs.Wide

def FA : List Fld := [⟨⟨#[]⟩, 6, 1⟩, ⟨⟨#[]⟩, 4, 1⟩, ⟨⟨#[]⟩, 6, 1⟩]
def VA : List WI := [⟨false, 0, 1⟩, ⟨true, 0, 2⟩, ⟨false, 0, 3⟩]
def VB : List WI := [⟨false, 0, 1⟩, ⟨true, 0, 2⟩, ⟨false, 0, 256⟩]
theorem fa1 : layC FA = 0 := by decide +kernel
theorem fa2 : ofSize FA = 12 := by decide +kernel
theorem fa3 : ofAt FA = [0, 4, 8] := by decide +kernel
theorem fa4 : fitC FA VA = 0 := by decide +kernel
theorem fa5 : packS FA VA = (⟨#[1, 0, 0, 0, 254, 255, 255, 255, 3, 0, 0, 0]⟩ : ByteArray) := by decide +kernel
theorem fa6 : fitC FA VB = 3 := by decide +kernel
theorem fa7 : packS FA VB = ⟨#[]⟩ := by decide +kernel
theorem fa8 : unE FA (⟨#[1, 0, 0, 0, 254, 255, 255, 255, 3, 0, 0, 0]⟩ : ByteArray) = 0 := by decide +kernel
theorem fa9 : unV FA (⟨#[1, 0, 0, 0, 254, 255, 255, 255, 3, 0, 0, 0]⟩ : ByteArray) = VA := by kernel_rfl
theorem fa10 : sumN FA = 3 := by decide +kernel

set_option maxRecDepth 20000 in
set_option maxHeartbeats 1000000 in
theorem w_ofm2 (w : World) : Calls Try.prog 25 #[.int .i64 (-2)] w fun r w' => r = .returned (WV ⟨true, 0, 2⟩) ∧ Keep (fun _ => False) w w' := by
  have hb := heap_alloc_new w (.cells Z3 57)
  have hk := (Keep.refl (fun _ => False) w).alloc (.cells Z3 57)
  have HB0 := hid hb; have HK0 := hid hk
  clear hb hk
  go_enter Try.func25, Try.ntmps25
  go_upto_region 1 with fail
  generalize w.alloc (.cells Z3 57) = w0 at *
  generalize hsb : w.heap.size = sb at *
  go_wp2_with fail
  refine (w_made true 0 2 (by omega) (by omega) _).mono ?_
  rw [normW_neg 2 (by decide)]
  rintro r w1 ⟨rfl, hk1⟩
  have HK := hid (HK0.out.trans hk1)
  have HB := hid (hk1.get HB0.out (fun h => h))
  clear hk1
  have c0 := cell_of HB.out (i := 0) (by rfl)
  have c1 := cell_of HB.out (i := 1) (by rfl)
  have c2 := cell_of HB.out (i := 2) (by rfl)
  have f0 := free_of HB.out 0
  have f1 := free_of HB.out 1
  have f2 := free_of HB.out 2
  go_wp2
  (try simp only [Exit.inBlock, Exit.then])
  refine bodyPost_ret (results_c rfl _ rfl (run_loadVar_row _ sb _ 57 _ _ _ (cells3 (.bool true) (.int .u64 0) (.int .u64 2) HB.out) Try.underlying57 rfl (by kernel_rfl))) rfl ?_
  exact ⟨rfl, ((HK.out.setCell_new (p := ⟨sb, 0, none⟩) (by show _ ≤ sb; omega) _).setCell_new (p := ⟨sb, 1, none⟩) (by show _ ≤ sb; omega) _).setCell_new (p := ⟨sb, 2, none⟩) (by show _ ≤ sb; omega) _⟩

set_option maxRecDepth 20000 in
set_option maxHeartbeats 16000000 in
theorem awake_true (w : World) : Calls Try.prog 8 #[] w fun r w' => r = .returned (.bool true) ∧ Keep (fun _ => False) w w' := by
  obtain ⟨w1, hw1, hb1, hs1, hk1⟩ := box1 w #[.string ⟨#[]⟩, .int .i64 6, .int .i64 1, .string ⟨#[]⟩, .int .i64 4, .int .i64 1, .string ⟨#[]⟩, .int .i64 6, .int .i64 1] 41
  have HB1 := hid hb1; have HK1 := hid hk1
  clear hb1 hk1 hs1
  go_enter Try.func8, Try.ntmps8
  go_upto_region 2 with fail
  rw [← hw1]
  clear hw1
  generalize w.heap.size = sb at *
  have HFA : Hid (∀ wy, Keep (fun _ => False) w1 wy → FP wy wy.heap.size (some ⟨sb, 0, none⟩) FA) := hid (fun wy hk => by
    have k3 := hk.get HB1.out id
    refine .inr ⟨_, 0, rfl, lt_of_heap k3, fun i x hx => ?_⟩
    match i, hx with
    | 0, hx => injection hx with hx; subst hx; exact ⟨cell_of k3 (by rfl), cell_of k3 (by rfl), cell_of k3 (by rfl)⟩
    | 1, hx => injection hx with hx; subst hx; exact ⟨cell_of k3 (by rfl), cell_of k3 (by rfl), cell_of k3 (by rfl)⟩
    | 2, hx => injection hx with hx; subst hx; exact ⟨cell_of k3 (by rfl), cell_of k3 (by rfl), cell_of k3 (by rfl)⟩
    | _ + 3, hx => simp [FA] at hx)
  go_wp2_with fail
  have hc := lay_of FA (some ⟨sb, 0, none⟩) 3 w1 (HFA.out _ (Keep.refl _ _))
  rw [fa1, fa2, fa3] at hc
  refine hc.mono ?_
  clear hc
  rintro r w2 ⟨pa, pc, rfl, hown, hk2⟩
  obtain ⟨ga, rfl⟩ := owns_some hown (by decide)
  obtain ⟨w3, hw3, hb3, hs3, hk3⟩ := box1 w2 #[.int .i64 12, .slice (some ⟨ga, 0, none⟩) 3 pc] 45
  have HK3 := hid (hk2.trans hk3)
  have HCP : Hid (∀ wy, Keep (fun _ => False) w3 wy → (wy.cell? ⟨w2.heap.size, 0, none⟩ = some (.int .i64 12) ∧ wy.cell? ⟨w2.heap.size, 1, none⟩ = some (.slice (some ⟨ga, 0, none⟩) 3 pc)) ∧ wy.cell? ⟨ga, 1, none⟩ = some (.int .i64 4) ∧ wy.cell? ⟨ga, 2, none⟩ = some (.int .i64 8)) := hid (fun wy hk => by
    have k3 := hk.get hb3 id
    have ho := owns_keep (w' := wy) hown (fun k hk' => (hk3.trans hk).block k (hown.lt k hk').2 id)
    exact ⟨⟨cell_of k3 (by rfl), cell_of k3 (by rfl)⟩, owns_cell (k := 1) ho (by decide), owns_cell (k := 2) ho (by decide)⟩)
  clear hown hk2 hk3 hb3 hs3
  go_upto_region 3 with fail
  rw [← hw3]
  clear hw3
  generalize w2.heap.size = pb at *
  have HT3 : Hid (Keep (fun _ => False) w3 w3) := hid (Keep.refl _ _)
  have HF3 : Hid (Keep (fun _ => False) w1 w3) := HK3
  go_wp2_with fail
  refine (w_of 1 (by decide) _).mono ?_
  rintro r w4 ⟨rfl, hk4⟩
  have HK4 := hid (HK3.out.trans hk4); have HT4 := hid (HT3.out.trans hk4)
  clear hk4
  go_wp2_with fail
  refine (w_ofm2 _).mono ?_
  rintro r w5 ⟨rfl, hk5⟩
  have HK5 := hid (HK4.out.trans hk5); have HT5 := hid (HT4.out.trans hk5)
  clear hk5
  go_wp2_with fail
  refine (w_of 3 (by decide) _).mono ?_
  rintro r w6 ⟨rfl, hk6⟩
  have HK6 := hid (HK5.out.trans hk6); have HT6 := hid (HT5.out.trans hk6)
  clear hk6
  obtain ⟨w7, hw7, hb7, hs7, hk7⟩ := box1 w6 #[.bool false, .int .u64 0, .int .u64 1, .bool true, .int .u64 0, .int .u64 2, .bool false, .int .u64 0, .int .u64 3] 57
  have HK7 := hid (HK6.out.trans hk7); have HT7 := hid (HT6.out.trans hk7)
  have HX7 : Hid (XP w7 w7.heap.size (some ⟨w6.heap.size, 0, none⟩) VA) := hid (by
    refine .inr ⟨_, 0, rfl, lt_of_heap hb7, fun i x hx => ?_⟩
    match i, hx with
    | 0, hx => injection hx with hx; subst hx; exact ⟨cell_of hb7 (by rfl), cell_of hb7 (by rfl), cell_of hb7 (by rfl)⟩
    | 1, hx => injection hx with hx; subst hx; exact ⟨cell_of hb7 (by rfl), cell_of hb7 (by rfl), cell_of hb7 (by rfl)⟩
    | 2, hx => injection hx with hx; subst hx; exact ⟨cell_of hb7 (by rfl), cell_of hb7 (by rfl), cell_of hb7 (by rfl)⟩
    | _ + 3, hx => simp [VA] at hx)
  clear hk7 hs7 hb7
  go_wp2_with fail
  rw [← hw7]
  clear hw7
  have hc := lay_pack FA (some ⟨sb, 0, none⟩) 3 VA (some ⟨w6.heap.size, 0, none⟩) 3 w7 (by decide) (by decide) (by decide) (by intro x hx; simp [VA] at hx; rcases hx with rfl | rfl | rfl <;> exact ⟨by decide, by decide⟩) (HFA.out _ (HF3.out.trans HT7.out)) HX7.out
  rw [fa4, fa5] at hc
  refine hc.mono ?_
  clear hc
  rintro r w8 ⟨rfl, hk8⟩
  have HK8 := hid (HK7.out.trans hk8); have HT8 := hid (HT7.out.trans hk8)
  clear hk8
  go_wp2_with fail
  refine (w_of 1 (by decide) _).mono ?_
  rintro r w9 ⟨rfl, hk9⟩
  have HK9 := hid (HK8.out.trans hk9); have HT9 := hid (HT8.out.trans hk9)
  clear hk9
  go_wp2_with fail
  refine (w_ofm2 _).mono ?_
  rintro r w10 ⟨rfl, hk10⟩
  have HK10 := hid (HK9.out.trans hk10); have HT10 := hid (HT9.out.trans hk10)
  clear hk10
  go_wp2_with fail
  refine (w_of 256 (by decide) _).mono ?_
  rintro r w11 ⟨rfl, hk11⟩
  have HK11 := hid (HK10.out.trans hk11); have HT11 := hid (HT10.out.trans hk11)
  clear hk11
  obtain ⟨w12, hw12, hb12, hs12, hk12⟩ := box1 w11 #[.bool false, .int .u64 0, .int .u64 1, .bool true, .int .u64 0, .int .u64 2, .bool false, .int .u64 0, .int .u64 256] 57
  have HK12 := hid (HK11.out.trans hk12); have HT12 := hid (HT11.out.trans hk12)
  have HX12 : Hid (XP w12 w12.heap.size (some ⟨w11.heap.size, 0, none⟩) VB) := hid (by
    refine .inr ⟨_, 0, rfl, lt_of_heap hb12, fun i x hx => ?_⟩
    match i, hx with
    | 0, hx => injection hx with hx; subst hx; exact ⟨cell_of hb12 (by rfl), cell_of hb12 (by rfl), cell_of hb12 (by rfl)⟩
    | 1, hx => injection hx with hx; subst hx; exact ⟨cell_of hb12 (by rfl), cell_of hb12 (by rfl), cell_of hb12 (by rfl)⟩
    | 2, hx => injection hx with hx; subst hx; exact ⟨cell_of hb12 (by rfl), cell_of hb12 (by rfl), cell_of hb12 (by rfl)⟩
    | _ + 3, hx => simp [VB] at hx)
  clear hk12 hs12 hb12
  go_wp2_with fail
  rw [← hw12]
  clear hw12
  have hc := lay_pack FA (some ⟨sb, 0, none⟩) 3 VB (some ⟨w11.heap.size, 0, none⟩) 3 w12 (by decide) (by decide) (by decide) (by intro x hx; simp [VB] at hx; rcases hx with rfl | rfl | rfl <;> exact ⟨by decide, by decide⟩) (HFA.out _ (HF3.out.trans HT12.out)) HX12.out
  rw [fa6, fa7] at hc
  refine hc.mono ?_
  clear hc
  rintro r w13 ⟨rfl, hk13⟩
  have HK13 := hid (HK12.out.trans hk13); have HT13 := hid (HT12.out.trans hk13)
  clear hk13
  go_wp2_with fail
  have hc := lay_unpack FA (some ⟨sb, 0, none⟩) 3 (⟨#[1, 0, 0, 0, 254, 255, 255, 255, 3, 0, 0, 0]⟩ : ByteArray) w13 (by decide) (by decide) (HFA.out _ (HF3.out.trans HT13.out))
  rw [fa8, fa9, show VA.length = 3 from rfl] at hc
  refine hc.mono ?_
  clear hc
  rintro r w14 ⟨va, vc, rfl, hown, hk14⟩
  obtain ⟨gv, rfl⟩ := owns_some hown (by decide)
  have HK14 := hid (HK13.out.trans hk14).drew; have HT14 := hid (HT13.out.trans hk14).drew
  have HCV : Hid (∀ wy, Keep (fun _ => False) w14.drew wy → wy.cell? ⟨gv, 3, none⟩ = some (.bool true) ∧ wy.cell? ⟨gv, 4, none⟩ = some (.int .u64 ((0 : Nat) : Int)) ∧ wy.cell? ⟨gv, 5, none⟩ = some (.int .u64 ((2 : Nat) : Int))) := hid (fun wy hk => by
    have ho := owns_keep (w' := wy) hown (fun k hk' => hk.block k (hown.lt k hk').2 id)
    exact ⟨owns3_cell wcl_len ho (i := 1) (r := 0) (x := ⟨true, 0, 2⟩) rfl rfl, owns3_cell wcl_len ho (i := 1) (r := 1) (x := ⟨true, 0, 2⟩) rfl rfl, owns3_cell wcl_len ho (i := 1) (r := 2) (x := ⟨true, 0, 2⟩) rfl rfl⟩)
  clear hown hk14
  have HEL : Hid (∀ wy, Keep (fun _ => False) w14.drew wy → Calls Try.prog 19 #[.slice (some ⟨sb, 0, none⟩) 3 3] wy fun r w' => r = .returned (iV 3) ∧ Keep (fun _ => False) wy w') := hid (fun wy hk => by
    have h := lay_elems FA (some ⟨sb, 0, none⟩) 3 wy fa1 (by decide) (HFA.out _ (HF3.out.trans (HT14.out.trans hk)))
    rwa [fa10] at h)
  go_upto_region 6 with fail
  obtain ⟨⟨p0, p1⟩, p4, p5⟩ := HCP.out _ HT14.out
  obtain ⟨v3, v4, v5⟩ := HCV.out _ (Keep.refl _ _)
  refine Plan.wp_region_pl3 [(false, 0, []), (false, 1, []), (false, 2, []), (false, 3, []), (false, 4, []), (false, 5, []), (false, 6, []), (false, 7, []), (false, 8, []), (false, 9, []), (false, 10, []), (false, 11, []), (false, 12, []), (false, 13, []), (false, 14, []), (false, 15, []), (false, 16, []), (false, 17, []), (false, 18, []), (false, 19, []), (false, 20, []), (false, 21, []), (false, 22, []), (false, 23, []), (false, 24, []), (false, 25, []), (false, 26, []), (false, 27, []), (false, 28, []), (false, 29, []), (false, 30, []), (false, 31, []), (false, 32, []), (false, 33, []), (false, 34, []), (false, 35, []), (false, 36, []), (false, 37, []), (false, 38, []), (false, 39, []), (false, 40, []), (false, 41, []), (false, 42, []), (false, 43, []), (false, 44, []), (false, 45, []), (false, 46, []), (false, 47, []), (false, 48, []), (false, 49, []), (false, 50, []), (false, 51, []), (true, 52, [51, 50, 49]), (false, 53, []), (false, 54, []), (false, 55, []), (false, 56, []), (true, 57, []), (false, 58, []), (false, 59, []), (false, 60, [])] (by as_aux_lemma => kernel_rfl) (by as_aux_lemma => kernel_rfl) ?_
  iterate 34 (refine Plan.pl_st rfl ?_; go_big_quiet_step (fail); refine wpQuiet_nil ?_)
  iterate 18 (refine Plan.pl_st rfl ?_; go_big_quiet_step (fail); refine wpQuiet_nil ?_)
  refine Plan.pl_ac rfl ?_
  go_wp2_with fail
  refine (w_ofm2 _).mono ?_
  rintro r w15 ⟨rfl, hk15⟩
  clear p0 p1 p4 p5 v3 v4 v5
  have HK15 := hid (HK14.out.trans hk15); have HT15 := hid (HT14.out.trans hk15)
  obtain ⟨⟨p0, p1⟩, p4, p5⟩ := HCP.out _ HT15.out
  obtain ⟨v3, v4, v5⟩ := HCV.out _ hk15
  have HE15 := hid (HEL.out _ hk15)
  clear hk15
  go_wp2
  refine Plan.plQ_mk ?_ ?_
  · iterate 3 (refine Plan.chk_st rfl ?_ ?_; focus (go_big_quiet_step (fail); exact wpQuiet_nil rfl))
    exact Plan.chk_end
  iterate 4 (refine Plan.pl_st rfl ?_; go_big_quiet_step (fail); refine wpQuiet_nil ?_)
  refine Plan.pl_ac rfl ?_
  go_wp2_with fail
  refine HE15.out.mono ?_
  rintro r w16 ⟨rfl, hk16⟩
  have HK16 := hid (HK15.out.trans hk16)
  clear hk16 p0 p1 p4 p5 v3 v4 v5
  go_wp2
  refine Plan.plQ_mk Plan.chk_end ?_
  iterate 3 (refine Plan.pl_st rfl ?_; go_big_quiet_step (fail); refine wpQuiet_nil ?_)
  refine Plan.pl_end ?_
  go_wp2
  go_ret
  exact ⟨rfl, HK1.out.trans HK16.out⟩
end Go.Proofs.Ytkgkcnmnfhehfaa

namespace Go.Proofs.Ytkgkcnmnfhehfaa
open Go.RowKit Go.Proofs.Heap Go.Proofs.Sch Go.Proofs.Wide

/-- How many elements; how many stand ahead of a field. -/
def elN (fs : List Fld) : Nat := if layC fs = 0 then sumN fs else 0
def stN (fs : List Fld) (i : Int) : Nat := if layC fs = 0 ∧ 0 ≤ i ∧ i < fs.length then sumN (fs.take i.toNat) else 0

set_option maxRecDepth 20000 in
set_option maxHeartbeats 8000000 in
theorem elems_any (fs : List Fld) (p : Option Addr) (cap : Nat) (w : World) (hcap : fs.length ≤ cap) (hf : FP w w.heap.size p fs) :
    Calls Try.prog 19 #[.slice p fs.length cap] w fun r w' => r = .returned (iV (elN fs)) ∧ Keep (fun _ => False) w w' := by
  by_cases h0 : layC fs = 0
  · have e : elN fs = sumN fs := by unfold elN; rw [if_pos h0]
    rw [e]
    exact lay_elems fs p cap w h0 hcap hf
  have G : Hid (elN fs = 0) := hid (by unfold elN; rw [if_neg h0])
  have HF := hid hf
  clear hf
  obtain ⟨z, hz⟩ : ∃ z, layC fs = z := ⟨_, rfl⟩
  have hC := hid (layout_check fs p cap w HF.out)
  rw [hz] at hC h0
  have g3 : ((z : Int) != 0) = true := by rw [bne, beq_eq_false_iff_ne.2 (show (z : Int) ≠ 0 by omega)]; rfl
  have g4 : (z != 0) = true := by rw [bne, beq_eq_false_iff_ne.2 h0]; rfl
  clear h0 hz
  go_enter Try.func19, Try.ntmps19
  go_wp2_with fail
  refine hC.out.mono ?_
  rintro r w1 ⟨rfl, hk1⟩
  have HK1 := hid hk1
  clear hk1
  go_wp2
  go_ret
  exact ⟨by rw [G.out]; rfl, HK1.out⟩

set_option maxRecDepth 20000 in
set_option maxHeartbeats 8000000 in
theorem start_any (fs : List Fld) (p : Option Addr) (cap : Nat) (i : Int) (w : World) (hcap : fs.length ≤ cap) (hf : FP w w.heap.size p fs) :
    Calls Try.prog 23 #[.slice p fs.length cap, .int .i64 i] w fun r w' => r = .returned (iV (stN fs i)) ∧ Keep (fun _ => False) w w' := by
  by_cases hg : layC fs = 0 ∧ 0 ≤ i ∧ i < fs.length
  · obtain ⟨h0, h1, h2⟩ := hg
    have e : stN fs i = sumN (fs.take i.toNat) := by unfold stN; rw [if_pos ⟨h0, h1, h2⟩]
    have h := lay_start fs p cap i.toNat w h0 (by omega) hcap hf
    rw [Int.toNat_of_nonneg h1] at h
    rw [e]
    exact h
  have G : Hid (stN fs i = 0) := hid (by unfold stN; rw [if_neg hg])
  have HF := hid hf
  clear hf
  obtain ⟨z, hz⟩ : ∃ z, layC fs = z := ⟨_, rfl⟩
  have hC := hid (layout_check fs p cap w HF.out)
  rw [hz] at hC hg
  clear hz
  go_enter Try.func23, Try.ntmps23
  go_wp2_with fail
  refine hC.out.mono ?_
  rintro r w1 ⟨rfl, hk1⟩
  have HK1 := hid hk1
  clear hk1
  by_cases h0 : z = 0
  · subst h0
    by_cases h1 : i < 0
    · have g1 : decide (i < 0) = true := decide_eq_true h1
      clear hg
      go_wp2
      go_ret
      exact ⟨by rw [G.out]; rfl, HK1.out⟩
    · have g1 : decide (i < 0) = false := decide_eq_false h1
      have g2 : decide ((fs.length : Int) ≤ i) = true := decide_eq_true (by omega)
      clear hg h1
      go_wp2
      go_ret
      exact ⟨by rw [G.out]; rfl, HK1.out⟩
  · have g3 : ((z : Int) != 0) = true := by rw [bne, beq_eq_false_iff_ne.2 (show (z : Int) ≠ 0 by omega)]; rfl
    have g4 : (z != 0) = true := by rw [bne, beq_eq_false_iff_ne.2 h0]; rfl
    clear h0 hg
    go_wp2
    go_ret
    exact ⟨by rw [G.out]; rfl, HK1.out⟩

theorem elN_le (fs : List Fld) : elN fs ≤ 64 := by
  unfold elN
  split
  · rename_i h
    have h1 := layC_zero h
    have h2 := sumN_le fs h1.2
    omega
  · omega
/-- Noughts made anew. -/
theorem made_zero (n : Nat) (i : Nat) (hi : i < n) : (madeCells (Value.agg #[.bool false, .int .u64 0, .int .u64 0]).cells (n * 3))[i * 3]? = some (.bool false) ∧ (madeCells (Value.agg #[.bool false, .int .u64 0, .int .u64 0]).cells (n * 3))[i * 3 + 1]? = some (.int .u64 0) ∧ (madeCells (Value.agg #[.bool false, .int .u64 0, .int .u64 0]).cells (n * 3))[i * 3 + 2]? = some (.int .u64 0) := by
  have e : (Value.agg #[.bool false, .int .u64 0, .int .u64 0]).cells = #[.bool false, .int .u64 0, .int .u64 0] := by rfl
  rw [e]
  have h0 : i * 3 % 3 = 0 := by omega
  have h1 : (i * 3 + 1) % 3 = 1 := by omega
  have h2 : (i * 3 + 2) % 3 = 2 := by omega
  unfold madeCells
  refine ⟨?_, ?_, ?_⟩
  · rw [Array.getElem?_map, Array.getElem?_range, if_pos (by omega)]; simp [h0]
  · rw [Array.getElem?_map, Array.getElem?_range, if_pos (by omega)]; simp [h1]
  · rw [Array.getElem?_map, Array.getElem?_range, if_pos (by omega)]; simp [h2]

set_option maxRecDepth 20000 in
set_option maxHeartbeats 8000000 in
theorem lay_zero (fs : List Fld) (p : Option Addr) (cap : Nat) (w : World) (hcap : fs.length ≤ cap) (hf : FP w w.heap.size p fs) :
    Calls Try.prog 22 #[.slice p fs.length cap] w fun r w' => ∃ a c, r = .returned (.slice a (elN fs) c) ∧ XP w' w'.heap.size a (List.replicate (elN fs) ⟨false, 0, 0⟩) ∧ Keep (fun _ => False) w w' := by
  obtain ⟨i0, hi0, hz0, hz1, hz2⟩ := info_parts' info_wi
  have HF := hid hf
  have HE := hid (elems_any fs p cap w hcap hf)
  have hle := elN_le fs
  clear hf
  generalize elN fs = n at *
  go_enter Try.func22, Try.ntmps22
  go_wp2_with fail
  refine HE.out.mono ?_
  rintro r w1 ⟨rfl, hk1⟩
  have HK1 := hid hk1
  clear hk1 HE
  by_cases h0 : n = 0
  · subst h0
    go_wp2
    go_ret
    exact ⟨none, 0, rfl, .inl rfl, HK1.out⟩
  · have hmk := run_make (P := Try.prog) w1 23 57 i0 _ Try.underlying23 hi0 hz0 .i64 .i64 (n : Int) (n : Int) (by omega) (by omega) (by rw [hz2]; omega) (by omega)
    rw [hz1, Int.toNat_natCast] at hmk
    have g1 : decide ((0 : Int) < (n : Int)) = true := decide_eq_true (by omega)
    have g2 : decide (0 < n) = true := decide_eq_true (by omega)
    have hb := heap_alloc_new w1 (.cells (madeCells (Value.agg #[.bool false, .int .u64 0, .int .u64 0]).cells (n * 3)) 57)
    have HB := hid hb
    have HK2 := hid (HK1.out.alloc (.cells (madeCells (Value.agg #[.bool false, .int .u64 0, .int .u64 0]).cells (n * 3)) 57))
    clear hb
    have HMC := hid (made_zero n)
    generalize madeCells (Value.agg #[.bool false, .int .u64 0, .int .u64 0]).cells (n * 3) = mc at *
    go_wp2
    go_ret
    refine ⟨_, _, rfl, ?_, HK2.out⟩
    refine .inr ⟨_, 0, rfl, lt_of_heap HB.out, fun i x hx => ?_⟩
    obtain ⟨hi, rfl⟩ : i < n ∧ x = ⟨false, 0, 0⟩ := by
      obtain ⟨h1, h2⟩ := List.getElem?_eq_some_iff.1 hx
      rw [List.length_replicate] at h1
      rw [List.getElem_replicate] at h2
      exact ⟨h1, h2.symm⟩
    obtain ⟨m0, m1, m2⟩ := HMC.out i hi
    rw [Nat.zero_add]
    exact ⟨cell_of HB.out m0, cell_of HB.out m1, cell_of HB.out m2⟩
end Go.Proofs.Ytkgkcnmnfhehfaa

namespace Go.Proofs.Ytkgkcnmnfhehfaa
open Go.RowKit Go.Proofs.Heap Go.Proofs.Sch Go.Proofs.Wide

theorem gr_of (p q : Option Addr) (n c m d : Nat) (w : World) : Calls Try.prog 9 #[.slice p n c, .slice q m d] w fun r w' => r = .returned (.bool (decide (12 < n) || decide (100 < m))) ∧ w = w' := by
  go_enter Try.func9, Try.ntmps9
  by_cases h1 : 12 < n
  · have g1 : decide ((12 : Int) < (n : Int)) = true := decide_eq_true (by omega)
    have G : Hid ((decide (12 < n) || decide (100 < m)) = true) := hid (by rw [decide_eq_true h1]; rfl)
    clear h1
    go_wp2
    go_ret
    exact ⟨by rw [G.out]; rfl, rfl⟩
  · have g1 : decide ((12 : Int) < (n : Int)) = false := decide_eq_false (by omega)
    by_cases h2 : 100 < m
    · have g2 : decide ((100 : Int) < (m : Int)) = true := decide_eq_true (by omega)
      have G : Hid ((decide (12 < n) || decide (100 < m)) = true) := hid (by rw [decide_eq_true h2]; simp)
      clear h1 h2
      go_wp2
      go_ret
      exact ⟨by rw [G.out]; rfl, rfl⟩
    · have g2 : decide ((100 : Int) < (m : Int)) = false := decide_eq_false (by omega)
      have G : Hid ((decide (12 < n) || decide (100 < m)) = false) := hid (by rw [decide_eq_false h1, decide_eq_false h2]; rfl)
      clear h1 h2
      go_wp2
      go_ret
      exact ⟨by rw [G.out]; rfl, rfl⟩
theorem r_lay' (fs : List Fld) (p : Option Addr) (cap : Nat) (w : World) (hf : FP w w.heap.size p fs) :
    Calls Try.prog 21 #[.slice p fs.length cap] w fun r w' => ∃ p5 c5 q7 d7, r = .returned (.tuple #[.slice p5 (elN fs) c5, iV (ofSize fs), .slice q7 (ofAt fs).length d7, iV (layC fs)]) ∧ w'.ownsRow w.heap.size 3 1 (.slice q7 (ofAt fs).length d7) (ofAt fs).length ((ofAt fs).map iV) ∧ Keep (fun _ => False) w w' := by
  refine (r_lay fs p cap w hf).mono ?_
  rintro r w' ⟨h | h, hk⟩
  · obtain ⟨h0, rfl⟩ := h
    have e1 : elN fs = 0 := by unfold elN; rw [if_neg h0]
    have e2 : ofSize fs = 0 := by unfold ofSize; rw [if_neg h0]
    have e3 : ofAt fs = [] := by unfold ofAt; rw [if_neg h0]
    rw [e1, e2, e3]
    exact ⟨none, 0, none, 0, rfl, World.ownsRow_nil _ _ _ _, hk⟩
  · obtain ⟨h0, p5, c5, q7, d7, rfl, hl⟩ := h
    have e1 : elN fs = (eRun fs).length := by unfold elN; rw [if_pos h0, eRun_len]
    have e2 : ofSize fs = pSize fs := by unfold ofSize; rw [if_pos h0]
    have e3 : ofAt fs = (pRun fs).2.2 := by unfold ofAt; rw [if_pos h0]
    rw [e1, e2, e3, h0]
    exact ⟨p5, c5, q7, d7, rfl, hl.o7, hk⟩

set_option maxRecDepth 20000 in
set_option maxHeartbeats 16000000 in
theorem layoutExact_walk (fs : List Fld) (p : Option Addr) (cap : Nat) (a : Int) (w : World) (hcap : fs.length ≤ cap) (hf : FP w w.heap.size p fs) :
    Calls Try.prog 6 #[.slice p fs.length cap, .int .i64 a] w fun r w' => r = .returned (.bool true) ∧ Below w.heap.size w w' := by
  have HF := hid hf; have HCP := hid hcap
  clear hf hcap
  go_enter Try.func6, Try.ntmps6
  go_wp2_with fail
  refine (awake_true _).mono ?_
  rintro r w1 ⟨rfl, hk1⟩
  have HK1 := hid hk1
  clear hk1
  go_wp2_with fail
  refine (gr_of _ _ _ _ _ _ _).mono ?_
  rintro r w_ ⟨rfl, rfl⟩
  rw [show decide (100 < 0) = false from rfl, Bool.or_false]
  by_cases hgr : 12 < fs.length
  · rw [decide_eq_true hgr]
    go_wp2
    go_ret
    exact ⟨rfl, HK1.out.below⟩
  rw [decide_eq_false hgr]
  clear hgr
  have HFP : Hid (∀ wy, Keep (fun _ => False) w wy → FP wy wy.heap.size p fs) := hid (fun wy hk => FP.mono (FP.low HF.out (Low.keep0 hk)) hk.size)
  go_wp2_with fail
  refine (r_lay' fs p cap _ (HFP.out _ HK1.out)).mono ?_
  rintro r w2 ⟨p5, c5, q7, d7, rfl, hown2, hk2⟩
  have HK2 := hid (HK1.out.trans hk2); have HO2 := hid hown2
  clear hk2 hown2
  go_wp2_with fail
  refine (lay_of fs p cap _ (HFP.out _ HK2.out)).mono ?_
  rintro r w3 ⟨pa, pc, rfl, hown3, hk3⟩
  obtain ⟨w4, hw4, hb4, hs4, hk4⟩ := box1 w3 #[.int .i64 (ofSize fs : Int), .slice pa (ofAt fs).length pc] 45
  have HK4 := hid ((HK2.out.trans hk3).trans hk4)
  have HO4 := hid (owns_keep (w' := w4) HO2.out (fun k hk => (hk3.trans hk4).block k (HO2.out.lt k hk).2 id))
  have HA4 := hid (owns_keep (w' := w4) hown3 (fun k hk => hk4.block k (hown3.lt k hk).2 id))
  have HB4 := hid hb4
  clear hown3 hk3 hk4 hb4 hs4
  go_upto_region 7 with fail
  rw [← hw4]
  clear hw4
  generalize w3.heap.size = pb at *
  have HBC : Hid (∀ wy, Keep (fun _ => False) w4 wy → wy.cell? ⟨pb, 0, none⟩ = some (.int .i64 (ofSize fs : Int)) ∧ wy.cell? ⟨pb, 1, none⟩ = some (.slice pa (ofAt fs).length pc)) := hid (fun wy hk =>
    ⟨cell_of (hk.get HB4.out id) (by rfl), cell_of (hk.get HB4.out id) (by rfl)⟩)
  have HCK := hid (fun wy (h : Keep (fun _ => False) w wy) => layout_check fs p cap wy (HFP.out wy h))
  have HZR := hid (fun wy (h : Keep (fun _ => False) w wy) => lay_zero fs p cap wy HCP.out (HFP.out wy h))
  have HEL := hid (fun wy (h : Keep (fun _ => False) w wy) => elems_any fs p cap wy HCP.out (HFP.out wy h))
  have HST := hid (fun wy (h : Keep (fun _ => False) w wy) => start_any fs p cap a wy HCP.out (HFP.out wy h))
  have HSN : Hid (stN fs a = if layC fs = 0 ∧ 0 ≤ a ∧ a < fs.length then sumN (fs.take a.toNat) else 0) := hid rfl
  have HOKF := hid (fun h : layC fs = 0 => layC_zero h)
  have HE64 := hid (elN_le fs)
  have HLA : Hid ((ofAt fs).length ≤ 12) := hid (by
    unfold ofAt
    split
    · rename_i h
      have h1 := at_len fs fs.length (Nat.le_refl _)
      rw [List.take_length] at h1
      have := (layC_zero h).1
      omega
    · simp)
  generalize ofSize fs = os at *
  generalize elN fs = en at *
  generalize hla : (ofAt fs).length = la at *
  have HLL := hid hla
  clear hla
  obtain ⟨lc, hlc⟩ : ∃ lc, layC fs = lc := ⟨_, rfl⟩
  rw [hlc] at HCK HSN HOKF ⊢
  clear hlc
  obtain ⟨d0, d1⟩ := HBC.out _ (Keep.refl _ _)
  go_wp2_with fail
  refine (HCK.out _ HK4.out).mono ?_
  rintro r w5 ⟨rfl, hk5⟩
  have HK5 := hid hk5
  clear hk5 d0 d1
  obtain ⟨d0, d1⟩ := HBC.out _ HK5.out
  go_wp2_with fail
  clear d0 d1
  go_loopw [11] (fun i wr => ∃ k : Nat, k ≤ la ∧ i = iV k ∧ Keep (fun _ => False) w4 wr) (fun i _ => la + 1 - (RowKit.intOf i).toNat)
  case atStart => exact ⟨0, Nat.zero_le _, rfl, HK5.out⟩
  case round =>
    obtain ⟨k, hk, rfl, hkr⟩ := hrel
    have HKR := hid hkr
    clear hkr
    have hla12 := HLA.out
    by_cases hlt : k < la
    · have g1 : decide ((k : Int) < (la : Int)) = true := decide_eq_true (by omega)
      have g1' : decide (k < la) = true := decide_eq_true hlt
      have hin : (0 : Int) ≤ (k : Int) ∧ (k : Int) < (la : Int) := ⟨by omega, by omega⟩
      obtain ⟨ga, rfl⟩ := owns_some HA4.out (by omega)
      obtain ⟨gb, rfl⟩ := owns_some HO4.out (by omega)
      obtain ⟨x, hx⟩ : ∃ x, (ofAt fs)[k]? = some x := ⟨(ofAt fs)[k]'(by rw [HLL.out]; exact hlt), by simp [HLL.out, hlt]⟩
      have hx' : ((ofAt fs).map iV)[k]? = some (iV x) := by rw [List.getElem?_map, hx]; rfl
      have h1 : wr.drew.cell? ⟨ga, k, none⟩ = some (.int .i64 (x : Int)) := by
        rw [owns_cell (k := k) (owns_keep (w' := wr.drew) HA4.out (fun j hj => HKR.out.block j (HA4.out.lt j hj).2 id)) hlt]; exact hx'
      have h2 : wr.drew.cell? ⟨gb, k, none⟩ = some (.int .i64 (x : Int)) := by
        rw [owns_cell (k := k) (owns_keep (w' := wr.drew) HO4.out (fun j hj => HKR.out.block j (HO4.out.lt j hj).2 id)) hlt]; exact hx'
      have h3 := (HBC.out _ HKR.out.drew).2
      clear hx hx'
      go_upto_region 12 with fail
      refine Plan.wp_region_reads (by as_aux_lemma => kernel_rfl) (by as_aux_lemma => kernel_rfl) ?_
      repeat (go_big_quiet_step (fail))
      refine wpQuiet_nil ?_
      clear h1 h2 h3
      go_wp2
      go_roundw
      case rel => exact ⟨k + 1, by omega, by go_num, HKR.out.drew⟩
      case measure => simp [RowKit.intOf]; omega
    · obtain rfl : k = la := by omega
      clear hla12
      obtain ⟨B, hB⟩ : ∃ B, decide (lc = 0 ∧ 0 ≤ a ∧ a < fs.length) = B := ⟨_, rfl⟩
      go_upto_region 15 with fail
      go_cut [82] from 71 to 82 (fun c wx => c = .bool B ∧ wr = wx)
      case first =>
        by_cases h1 : lc = 0
        · have g1 : ((lc : Int) == 0) = true := beq_iff_eq.2 (by omega)
          have g1' : (lc == 0) = true := beq_iff_eq.2 h1
          by_cases h2 : 0 ≤ a
          · have g2 : decide (0 ≤ a) = true := decide_eq_true h2
            by_cases h3 : a < fs.length
            · have g3 : decide (a < (fs.length : Int)) = true := decide_eq_true h3
              have hb : B = true := by rw [← hB]; exact decide_eq_true ⟨h1, h2, h3⟩
              subst hb
              clear hB h1 h2 h3
              go_wp2
              go_meet
              case rel => exact ⟨rfl, rfl⟩
            · have g3 : decide (a < (fs.length : Int)) = false := decide_eq_false h3
              have hb : B = false := by rw [← hB]; exact decide_eq_false (fun h => h3 h.2.2)
              subst hb
              clear hB h1 h2 h3
              go_wp2
              go_meet
              case rel => exact ⟨rfl, rfl⟩
          · have g2 : decide (0 ≤ a) = false := decide_eq_false h2
            have hb : B = false := by rw [← hB]; exact decide_eq_false (fun h => h2 h.2.1)
            subst hb
            clear hB h1 h2
            go_wp2
            go_meet
            case rel => exact ⟨rfl, rfl⟩
        · have g1 : ((lc : Int) == 0) = false := beq_eq_false_iff_ne.2 (by omega)
          have g1' : (lc == 0) = false := beq_eq_false_iff_ne.2 h1
          have hb : B = false := by rw [← hB]; exact decide_eq_false (fun h => h1 h.1)
          subst hb
          clear hB h1
          go_wp2
          go_meet
          case rel => exact ⟨rfl, rfl⟩
      case rest =>
      obtain ⟨rfl, rfl⟩ := hcut
      go_upto_if 82 with fail
      go_cut [12, 13] from 82 to 94 (fun x _ wx => x = iV (stN fs a) ∧ Keep (fun _ => False) w4 wx)
      case first =>
        cases B
        · have G : Hid (stN fs a = 0) := hid (by rw [HSN.out, if_neg (of_decide_eq_false hB)])
          clear hB
          go_wp2
          go_meet
          case rel => exact ⟨by rw [G.out]; rfl, HKR.out⟩
        · obtain ⟨h1, h2, h3⟩ := of_decide_eq_true hB
          obtain ⟨an, rfl⟩ := Int.eq_ofNat_of_zero_le h2
          have hok := HOKF.out h1
          have HOK := hid hok.2
          have G : Hid (stN fs (an : Int) = sumN (fs.take an)) := hid (by rw [HSN.out, if_pos ⟨h1, h2, h3⟩, Int.toNat_natCast])
          have han : an < fs.length := by omega
          have hl8 := hok.1
          clear hB h1 h2 h3 hok
          have HKR' := HKR
          go_wp2_with fail
          go_loopw [12, 13] (fun x i wy => ∃ k : Nat, k ≤ an ∧ i = iV k ∧ x = iV (sumN (fs.take k)) ∧ Keep (fun _ => False) w4 wy ∧ sumN (fs.take k) ≤ 8 * k) (fun _ i _ => an + 1 - (RowKit.intOf i).toNat)
          case atStart => exact ⟨0, Nat.zero_le _, rfl, rfl, HKR.out, by simp [sumN]⟩
          case round =>
            obtain ⟨j, hj, rfl, rfl, hkj, hle⟩ := hrel
            have HKJ := hid hkj
            clear hkj
            by_cases hlt2 : j < an
            · obtain ⟨f, hfk⟩ : ∃ f, fs[j]? = some f := ⟨fs[j]'(by omega), by simp [show j < fs.length by omega]⟩
              have hof := (HOK.out f (List.mem_of_getElem? hfk)).2
              obtain ⟨b, off, rfl, hb, c0, c1, c2⟩ := FP.at (FP.low HF.out (Low.keep0 (HK4.out.trans HKJ.out))) hfk
              have hin : (0 : Int) ≤ (j : Int) ∧ (j : Int) < (fs.length : Int) := ⟨by omega, by omega⟩
              have hsn := sumN_next hfk
              have HSN2 := hid hsn
              clear hfk hsn
              obtain ⟨nm, kd, ct⟩ := f
              obtain ⟨cn, rfl⟩ := Int.eq_ofNat_of_zero_le (a := ct) (by have := hof.1; simp only at this; omega)
              simp only at c0 c1 c2 hof
              have hcn : cn ≤ 8 := by omega
              generalize sumN (fs.take j) = sm at *
              go_wp2
              go_roundw
              case rel => exact ⟨j + 1, by omega, by go_num, by rw [HSN2.out]; simp, HKJ.out, by rw [HSN2.out]; simp; omega⟩
              case measure => simp [RowKit.intOf]; omega
            · obtain rfl : j = an := by omega
              go_wp2
              go_meet
              case rel => exact ⟨by rw [G.out], HKJ.out⟩
      case rest =>
      obtain ⟨rfl, hkc⟩ := hcut
      have HKC := hid (HK4.out.trans hkc)
      clear hkc
      clear HSN HOKF
      generalize stN fs a = sn at *
      go_wp2_with fail
      refine (HZR.out _ HKC.out).mono ?_
      rintro r w6 ⟨za, zc, rfl, hxz, hk6⟩
      have HK6 := hid (HKC.out.trans hk6); have HXZ := hid hxz
      clear hxz hk6
      go_wp2_with fail
      go_loopw [15] (fun i wy => ∃ j : Nat, j ≤ en ∧ i = iV j ∧ w6 = wy) (fun i _ => en + 1 - (RowKit.intOf i).toNat)
      case atStart => exact ⟨0, Nat.zero_le _, rfl, rfl⟩
      case round =>
        obtain ⟨j, hj, rfl, rfl⟩ := hrel
        have he64 := HE64.out
        by_cases hlt2 : j < en
        · obtain ⟨zb, zo, rfl, hzb, z0, z1, z2⟩ := XP.at HXZ.out (i := j) (f := ⟨false, 0, 0⟩) (by rw [List.getElem?_replicate, if_pos hlt2])
          have hin : (0 : Int) ≤ (j : Int) ∧ (j : Int) < (en : Int) := ⟨by omega, by omega⟩
          go_wp2
          go_roundw
          case rel => exact ⟨j + 1, by omega, by go_num, by first | rfl | trivial⟩
          case measure => simp [RowKit.intOf]; omega
        · obtain rfl : j = en := by omega
          go_wp2_with fail
          refine (HEL.out _ HK6.out).mono ?_
          rintro r w7 ⟨rfl, hk7⟩
          have HK7 := hid (HK6.out.trans hk7)
          clear hk7
          go_wp2_with fail
          refine (HST.out _ HK7.out).mono ?_
          rintro r w8 ⟨rfl, hk8⟩
          have HK8 := hid (HK7.out.trans hk8)
          clear hk8
          go_wp2
          go_ret
          exact ⟨rfl, HK8.out.below⟩
end Go.Proofs.Ytkgkcnmnfhehfaa

namespace Go.Proofs.Ytkgkcnmnfhehfaa
open Go.RowKit Go.Proofs.Heap Go.Proofs.Sch Go.Proofs.Wide

section
variable {P : Program} {ops : Array Oper}
theorem quiet_neq {Q : Act → Prop} {rest : List Oper} {a : Act} {o : Oper} {w : World} (hgd : o.guard = none) (t u : TypeId) (x y : Operand) (xs ys : Array Value) (b : Bool) (ho : o.op = .binOp .neq t x y u) (hx : a.eval x = .agg xs) (hy : a.eval y = .agg ys)
    (hm : P.eqGuardType P.depth t = false) (hl : (binOp .neq t (.agg xs) (.agg ys)).run P w = .ok (.bool b) w) (h : wpQuiet P ops (fun w' => w' = w) Q rest (a.put o.dst (.bool b))) : wpQuiet P ops (fun w' => w' = w) Q (o :: rest) a := by
  refine BigFrame.wpQuiet_want (by simp [Region.wanted, hgd]) fun K hK => ⟨.bool b, fun w' hw' => ?_, hK _ h⟩
  subst hw'
  have hg := fun (o1 o2 : Operand) => run_eqGuard_agg (P := P) (w := w') .neq t o1 o2 xs ys hm
  unfold Oper.quietAt execOp
  simp [ho, hx, hy, hl, hg]
  exact ⟨rfl, rfl⟩
end
theorem eq_wi (x y : WI) (w : World) : (Op.equalIn 10000 57 (WV x) (WV y)).run Try.prog w = .ok (x.neg == y.neg && ((x.hi : Int) == (y.hi : Int) && (x.lo : Int) == (y.lo : Int))) w := by
  have u1 := Try.underlying4
  have u2 := Try.underlying55
  have hS : Try.prog.underlying 57 = some (.struct (Try.prog.fieldsOf 57)) := by kernel_rfl
  have hp : Try.prog.stoodInHeld 57 = false := by kernel_rfl
  rw [show (10000 : Nat) = 9999 + 1 from rfl, run_equalIn_agg w 9999 57 _ _ hS hp]
  simp only [Program.fieldsOf, Try.underlying57]
  go_simp
  obtain ⟨n1, h1, l1⟩ := x
  obtain ⟨n2, h2, l2⟩ := y
  cases n1 <;> cases n2 <;> by_cases e1 : (h1 : Int) = (h2 : Int) <;> by_cases e2 : (l1 : Int) = (l2 : Int) <;> simp [e1, e2]
theorem neq_wi (x y : WI) (w : World) : (binOp .neq 57 (WV x) (WV y)).run Try.prog w = .ok (.bool (!(x.neg == y.neg && ((x.hi : Int) == (y.hi : Int) && (x.lo : Int) == (y.lo : Int))))) w := by
  rw [run_neq_struct, eq_wi]; rfl
theorem neq_same (x : WI) (w : World) : (binOp .neq 57 (WV x) (WV x)).run Try.prog w = .ok (.bool false) w := by
  rw [neq_wi]; simp
theorem neq_other {x y : WI} (h : x ≠ y) (w : World) : (binOp .neq 57 (WV x) (WV y)).run Try.prog w = .ok (.bool true) w := by
  rw [neq_wi]
  cases e : (x.neg == y.neg && ((x.hi : Int) == (y.hi : Int) && (x.lo : Int) == (y.lo : Int)))
  · rfl
  · exfalso
    simp only [Bool.and_eq_true, beq_iff_eq] at e
    obtain ⟨n1, h1, l1⟩ := x
    obtain ⟨n2, h2, l2⟩ := y
    obtain ⟨e1, e2, e3⟩ := e
    simp only at e1 e2 e3
    exact h (by rw [e1, show h1 = h2 by omega, show l1 = l2 by omega])
open Classical in
/-- Whether rows are the same. -/
noncomputable def eqV (a b : List WI) : Bool := decide (a = b)
theorem eqV_yes {a b : List WI} (h : a = b) : eqV a b = true := by simp [eqV, h]
theorem eqV_no {a b : List WI} (h : a ≠ b) : eqV a b = false := by simp [eqV, h]
set_option maxRecDepth 20000 in
set_option maxHeartbeats 8000000 in
theorem vals_of (xs ys : List WI) (p q : Option Addr) (c d : Nat) (w : World) (hl : xs.length ≤ 65536) (hx : XP w w.heap.size p xs) (hy : XP w w.heap.size q ys) :
    Calls Try.prog 16 #[.slice p xs.length c, .slice q ys.length d] w fun r w' => r = .returned (.bool (eqV xs ys)) ∧ Keep (fun _ => False) w w' := by
  have HX := hid hx; have HY := hid hy
  clear hx hy
  go_enter Try.func16, Try.ntmps16
  by_cases hn : xs.length = ys.length
  rotate_left
  · have G : Hid (eqV xs ys = false) := hid (eqV_no (fun h => hn (by rw [h])))
    have g1 : ((xs.length : Int) != (ys.length : Int)) = true := by rw [bne, beq_eq_false_iff_ne.2 (show (xs.length : Int) ≠ (ys.length : Int) by omega)]; rfl
    have g2 : (xs.length != ys.length) = true := by rw [bne, beq_eq_false_iff_ne.2 hn]; rfl
    clear hn
    go_wp2
    go_ret
    exact ⟨by rw [G.out]; rfl, Keep.refl _ _⟩
  have HN := hid hn
  rw [← hn]
  generalize hnl : xs.length = n at *
  have HNL := hid hnl
  clear hn hnl
  go_wp2_with fail
  go_loopw [5] (fun i wr => ∃ k : Nat, k ≤ n ∧ i = iV k ∧ (∀ j, j < k → xs[j]? = ys[j]?) ∧ Keep (fun _ => False) w wr) (fun i _ => n + 1 - (RowKit.intOf i).toNat)
  case atStart => exact ⟨0, Nat.zero_le _, rfl, fun j hj => by omega, Keep.refl _ _⟩
  case round =>
    obtain ⟨k, hk, rfl, hal, hkr⟩ := hrel
    have HAL := hid hal; have HKR := hid hkr
    clear hal hkr
    by_cases hlt : k < n
    · obtain ⟨x, hxk⟩ : ∃ x, xs[k]? = some x := ⟨xs[k]'(by rw [HNL.out]; exact hlt), by simp [HNL.out, hlt]⟩
      obtain ⟨y, hyk⟩ : ∃ y, ys[k]? = some y := ⟨ys[k]'(by rw [← HN.out]; exact hlt), by simp [← HN.out, hlt]⟩
      obtain ⟨b1, o1, rfl, hb1, x0, x1, x2⟩ := XP.at (XP.low HX.out (Low.keep0 HKR.out.drew)) hxk
      obtain ⟨b2, o2, rfl, hb2, y0, y1, y2⟩ := XP.at (XP.low HY.out (Low.keep0 HKR.out.drew)) hyk
      have hin : (0 : Int) ≤ (k : Int) ∧ (k : Int) < (n : Int) := ⟨by omega, by omega⟩
      have HNX : Hid (x = y → ∀ j, j < k + 1 → xs[j]? = ys[j]?) := hid (fun h j hj => by
        by_cases e : j = k
        · subst e; rw [hxk, hyk, h]
        · exact HAL.out j (by omega))
      have HNE : Hid (x ≠ y → eqV xs ys = false) := hid (fun h => eqV_no (fun e => h (by rw [e, hyk] at hxk; exact (Option.some.inj hxk).symm)))
      clear hxk hyk
      go_upto_region 6 with fail
      by_cases hxy : x = y
      · have G := hid (HNX.out hxy)
        subst hxy
        have hcmp := neq_same x wr.drew
        refine Plan.wp_region_reads (by as_aux_lemma => kernel_rfl) (by as_aux_lemma => kernel_rfl) ?_
        repeat (go_big_quiet_step (fail))
        refine wpQuiet_nil ?_
        clear x0 x1 x2 y0 y1 y2 hcmp
        go_wp2
        go_roundw
        case rel => exact ⟨k + 1, by omega, by go_num, G.out, HKR.out.drew⟩
        case measure => simp [RowKit.intOf]; omega
      · have G := hid (HNE.out hxy)
        have hcmp := neq_other hxy wr.drew
        clear hxy
        refine Plan.wp_region_reads (by as_aux_lemma => kernel_rfl) (by as_aux_lemma => kernel_rfl) ?_
        iterate 8 (go_big_quiet_step (fail))
        refine quiet_neq rfl _ _ _ _ _ _ _ rfl rfl rfl (by kernel_rfl) hcmp ?_
        refine wpQuiet_nil ?_
        clear x0 x1 x2 y0 y1 y2 hcmp
        go_wp2
        go_ret
        exact ⟨by rw [G.out]; rfl, HKR.out.drew⟩
    · obtain rfl : k = n := by omega
      have G : Hid (eqV xs ys = true) := hid (eqV_yes (List.ext_getElem? fun j => by
        by_cases h : j < k
        · exact HAL.out j h
        · rw [List.getElem?_eq_none (by rw [HNL.out]; omega), List.getElem?_eq_none (by rw [← HN.out]; omega)]))
      go_wp2
      go_ret
      exact ⟨by rw [G.out]; rfl, HKR.out⟩
end Go.Proofs.Ytkgkcnmnfhehfaa
