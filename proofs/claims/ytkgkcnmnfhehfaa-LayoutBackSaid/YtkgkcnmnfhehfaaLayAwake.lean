/- What is proved: the law of layouts is awake. -/
import Derived.Test.YtkgkcnmnfhehfaaUnpack
namespace Go.Proofs.Ytkgkcnmnfhehfaa
open Go.RowKit Go.Proofs.Heap Go.Proofs.Sch Go.Proofs.Wide

def FA : List Fld := [⟨⟨#[]⟩, 6, 1⟩, ⟨⟨#[]⟩, 4, 1⟩, ⟨⟨#[]⟩, 6, 1⟩]
def VA : List WI := [⟨false, 0, 1⟩, ⟨true, 0, 2⟩, ⟨false, 0, 3⟩]
def VB : List WI := [⟨false, 0, 1⟩, ⟨true, 0, 2⟩, ⟨false, 0, 256⟩]
theorem fa1 : layC FA = 0 := by decide +kernel
theorem fa2 : ofSize FA = 12 := by decide +kernel
theorem fa3 : ofAt FA = [0, 4, 8] := by decide +kernel
theorem fa4 : fitC FA VA = 0 := by decide +kernel
theorem fa5 : packS FA VA = (⟨#[1, 0, 0, 0, 254, 255, 255, 255, 3, 0, 0, 0]⟩ : ByteArray) := by decide +kernel
theorem fa6 : fitC FA VB = 3 := by decide +kernel
theorem fa7 : packS FA VB = ⟨#[]⟩ := by decide +kernel
theorem fa8 : unE FA (⟨#[1, 0, 0, 0, 254, 255, 255, 255, 3, 0, 0, 0]⟩ : ByteArray) = 0 := by decide +kernel
theorem fa9 : unV FA (⟨#[1, 0, 0, 0, 254, 255, 255, 255, 3, 0, 0, 0]⟩ : ByteArray) = VA := by kernel_rfl
theorem fa10 : sumN FA = 3 := by decide +kernel

set_option maxRecDepth 20000 in
set_option maxHeartbeats 1000000 in
theorem w_ofm2 (w : World) : Calls Try.prog 25 #[.int .i64 (-2)] w fun r w' => r = .returned (WV ⟨true, 0, 2⟩) ∧ Keep (fun _ => False) w w' := by
  have hb := heap_alloc_new w (.cells Z3 57)
  have hk := (Keep.refl (fun _ => False) w).alloc (.cells Z3 57)
  have HB0 := hid hb; have HK0 := hid hk
  clear hb hk
  go_enter Try.func25, Try.ntmps25
  go_upto_region 1 with fail
  generalize w.alloc (.cells Z3 57) = w0 at *
  generalize hsb : w.heap.size = sb at *
  go_wp2_with fail
  refine (w_made true 0 2 (by omega) (by omega) _).mono ?_
  rw [normW_neg 2 (by decide)]
  rintro r w1 ⟨rfl, hk1⟩
  have HK := hid (HK0.out.trans hk1)
  have HB := hid (hk1.get HB0.out (fun h => h))
  clear hk1
  have c0 := cell_of HB.out (i := 0) (by rfl)
  have c1 := cell_of HB.out (i := 1) (by rfl)
  have c2 := cell_of HB.out (i := 2) (by rfl)
  have f0 := free_of HB.out 0
  have f1 := free_of HB.out 1
  have f2 := free_of HB.out 2
  go_wp2
  (try simp only [Exit.inBlock, Exit.then])
  refine bodyPost_ret (results_c rfl _ rfl (run_loadVar_row _ sb _ 57 _ _ _ (cells3 (.bool true) (.int .u64 0) (.int .u64 2) HB.out) Try.underlying57 rfl (by kernel_rfl))) rfl ?_
  exact ⟨rfl, ((HK.out.setCell_new (p := ⟨sb, 0, none⟩) (by show _ ≤ sb; omega) _).setCell_new (p := ⟨sb, 1, none⟩) (by show _ ≤ sb; omega) _).setCell_new (p := ⟨sb, 2, none⟩) (by show _ ≤ sb; omega) _⟩

set_option maxRecDepth 20000 in
set_option maxHeartbeats 16000000 in
theorem awake_true (w : World) : Calls Try.prog 8 #[] w fun r w' => r = .returned (.bool true) ∧ Keep (fun _ => False) w w' := by
  obtain ⟨w1, hw1, hb1, hs1, hk1⟩ := box1 w #[.string ⟨#[]⟩, .int .i64 6, .int .i64 1, .string ⟨#[]⟩, .int .i64 4, .int .i64 1, .string ⟨#[]⟩, .int .i64 6, .int .i64 1] 41
  have HB1 := hid hb1; have HK1 := hid hk1
  clear hb1 hk1 hs1
  go_enter Try.func8, Try.ntmps8
  go_upto_region 2 with fail
  rw [← hw1]
  clear hw1
  generalize w.heap.size = sb at *
  have HFA : Hid (∀ wy, Keep (fun _ => False) w1 wy → FP wy wy.heap.size (some ⟨sb, 0, none⟩) FA) := hid (fun wy hk => by
    have k3 := hk.get HB1.out id
    refine .inr ⟨_, 0, rfl, lt_of_heap k3, fun i x hx => ?_⟩
    match i, hx with
    | 0, hx => injection hx with hx; subst hx; exact ⟨cell_of k3 (by rfl), cell_of k3 (by rfl), cell_of k3 (by rfl)⟩
    | 1, hx => injection hx with hx; subst hx; exact ⟨cell_of k3 (by rfl), cell_of k3 (by rfl), cell_of k3 (by rfl)⟩
    | 2, hx => injection hx with hx; subst hx; exact ⟨cell_of k3 (by rfl), cell_of k3 (by rfl), cell_of k3 (by rfl)⟩
    | _ + 3, hx => simp [FA] at hx)
  go_wp2_with fail
  have hc := lay_of FA (some ⟨sb, 0, none⟩) 3 w1 (HFA.out _ (Keep.refl _ _))
  rw [fa1, fa2, fa3] at hc
  refine hc.mono ?_
  clear hc
  rintro r w2 ⟨pa, pc, rfl, hown, hk2⟩
  obtain ⟨ga, rfl⟩ := owns_some hown (by decide)
  obtain ⟨w3, hw3, hb3, hs3, hk3⟩ := box1 w2 #[.int .i64 12, .slice (some ⟨ga, 0, none⟩) 3 pc] 45
  have HK3 := hid (hk2.trans hk3)
  have HCP : Hid (∀ wy, Keep (fun _ => False) w3 wy → (wy.cell? ⟨w2.heap.size, 0, none⟩ = some (.int .i64 12) ∧ wy.cell? ⟨w2.heap.size, 1, none⟩ = some (.slice (some ⟨ga, 0, none⟩) 3 pc)) ∧ wy.cell? ⟨ga, 1, none⟩ = some (.int .i64 4) ∧ wy.cell? ⟨ga, 2, none⟩ = some (.int .i64 8)) := hid (fun wy hk => by
    have k3 := hk.get hb3 id
    have ho := owns_keep (w' := wy) hown (fun k hk' => (hk3.trans hk).block k (hown.lt k hk').2 id)
    exact ⟨⟨cell_of k3 (by rfl), cell_of k3 (by rfl)⟩, owns_cell (k := 1) ho (by decide), owns_cell (k := 2) ho (by decide)⟩)
  clear hown hk2 hk3 hb3 hs3
  go_upto_region 3 with fail
  rw [← hw3]
  clear hw3
  generalize w2.heap.size = pb at *
  have HT3 : Hid (Keep (fun _ => False) w3 w3) := hid (Keep.refl _ _)
  have HF3 : Hid (Keep (fun _ => False) w1 w3) := HK3
  go_wp2_with fail
  refine (w_of 1 (by decide) _).mono ?_
  rintro r w4 ⟨rfl, hk4⟩
  have HK4 := hid (HK3.out.trans hk4); have HT4 := hid (HT3.out.trans hk4)
  clear hk4
  go_wp2_with fail
  refine (w_ofm2 _).mono ?_
  rintro r w5 ⟨rfl, hk5⟩
  have HK5 := hid (HK4.out.trans hk5); have HT5 := hid (HT4.out.trans hk5)
  clear hk5
  go_wp2_with fail
  refine (w_of 3 (by decide) _).mono ?_
  rintro r w6 ⟨rfl, hk6⟩
  have HK6 := hid (HK5.out.trans hk6); have HT6 := hid (HT5.out.trans hk6)
  clear hk6
  obtain ⟨w7, hw7, hb7, hs7, hk7⟩ := box1 w6 #[.bool false, .int .u64 0, .int .u64 1, .bool true, .int .u64 0, .int .u64 2, .bool false, .int .u64 0, .int .u64 3] 57
  have HK7 := hid (HK6.out.trans hk7); have HT7 := hid (HT6.out.trans hk7)
  have HX7 : Hid (XP w7 w7.heap.size (some ⟨w6.heap.size, 0, none⟩) VA) := hid (by
    refine .inr ⟨_, 0, rfl, lt_of_heap hb7, fun i x hx => ?_⟩
    match i, hx with
    | 0, hx => injection hx with hx; subst hx; exact ⟨cell_of hb7 (by rfl), cell_of hb7 (by rfl), cell_of hb7 (by rfl)⟩
    | 1, hx => injection hx with hx; subst hx; exact ⟨cell_of hb7 (by rfl), cell_of hb7 (by rfl), cell_of hb7 (by rfl)⟩
    | 2, hx => injection hx with hx; subst hx; exact ⟨cell_of hb7 (by rfl), cell_of hb7 (by rfl), cell_of hb7 (by rfl)⟩
    | _ + 3, hx => simp [VA] at hx)
  clear hk7 hs7 hb7
  go_wp2_with fail
  rw [← hw7]
  clear hw7
  have hc := lay_pack FA (some ⟨sb, 0, none⟩) 3 VA (some ⟨w6.heap.size, 0, none⟩) 3 w7 (by decide) (by decide) (by decide) (by intro x hx; simp [VA] at hx; rcases hx with rfl | rfl | rfl <;> exact ⟨by decide, by decide⟩) (HFA.out _ (HF3.out.trans HT7.out)) HX7.out
  rw [fa4, fa5] at hc
  refine hc.mono ?_
  clear hc
  rintro r w8 ⟨rfl, hk8⟩
  have HK8 := hid (HK7.out.trans hk8); have HT8 := hid (HT7.out.trans hk8)
  clear hk8
  go_wp2_with fail
  refine (w_of 1 (by decide) _).mono ?_
  rintro r w9 ⟨rfl, hk9⟩
  have HK9 := hid (HK8.out.trans hk9); have HT9 := hid (HT8.out.trans hk9)
  clear hk9
  go_wp2_with fail
  refine (w_ofm2 _).mono ?_
  rintro r w10 ⟨rfl, hk10⟩
  have HK10 := hid (HK9.out.trans hk10); have HT10 := hid (HT9.out.trans hk10)
  clear hk10
  go_wp2_with fail
  refine (w_of 256 (by decide) _).mono ?_
  rintro r w11 ⟨rfl, hk11⟩
  have HK11 := hid (HK10.out.trans hk11); have HT11 := hid (HT10.out.trans hk11)
  clear hk11
  obtain ⟨w12, hw12, hb12, hs12, hk12⟩ := box1 w11 #[.bool false, .int .u64 0, .int .u64 1, .bool true, .int .u64 0, .int .u64 2, .bool false, .int .u64 0, .int .u64 256] 57
  have HK12 := hid (HK11.out.trans hk12); have HT12 := hid (HT11.out.trans hk12)
  have HX12 : Hid (XP w12 w12.heap.size (some ⟨w11.heap.size, 0, none⟩) VB) := hid (by
    refine .inr ⟨_, 0, rfl, lt_of_heap hb12, fun i x hx => ?_⟩
    match i, hx with
    | 0, hx => injection hx with hx; subst hx; exact ⟨cell_of hb12 (by rfl), cell_of hb12 (by rfl), cell_of hb12 (by rfl)⟩
    | 1, hx => injection hx with hx; subst hx; exact ⟨cell_of hb12 (by rfl), cell_of hb12 (by rfl), cell_of hb12 (by rfl)⟩
    | 2, hx => injection hx with hx; subst hx; exact ⟨cell_of hb12 (by rfl), cell_of hb12 (by rfl), cell_of hb12 (by rfl)⟩
    | _ + 3, hx => simp [VB] at hx)
  clear hk12 hs12 hb12
  go_wp2_with fail
  rw [← hw12]
  clear hw12
  have hc := lay_pack FA (some ⟨sb, 0, none⟩) 3 VB (some ⟨w11.heap.size, 0, none⟩) 3 w12 (by decide) (by decide) (by decide) (by intro x hx; simp [VB] at hx; rcases hx with rfl | rfl | rfl <;> exact ⟨by decide, by decide⟩) (HFA.out _ (HF3.out.trans HT12.out)) HX12.out
  rw [fa6, fa7] at hc
  refine hc.mono ?_
  clear hc
  rintro r w13 ⟨rfl, hk13⟩
  have HK13 := hid (HK12.out.trans hk13); have HT13 := hid (HT12.out.trans hk13)
  clear hk13
  go_wp2_with fail
  have hc := lay_unpack FA (some ⟨sb, 0, none⟩) 3 (⟨#[1, 0, 0, 0, 254, 255, 255, 255, 3, 0, 0, 0]⟩ : ByteArray) w13 (by decide) (by decide) (HFA.out _ (HF3.out.trans HT13.out))
  rw [fa8, fa9, show VA.length = 3 from rfl] at hc
  refine hc.mono ?_
  clear hc
  rintro r w14 ⟨va, vc, rfl, hown, hk14⟩
  obtain ⟨gv, rfl⟩ := owns_some hown (by decide)
  have HK14 := hid (HK13.out.trans hk14).drew; have HT14 := hid (HT13.out.trans hk14).drew
  have HCV : Hid (∀ wy, Keep (fun _ => False) w14.drew wy → wy.cell? ⟨gv, 3, none⟩ = some (.bool true) ∧ wy.cell? ⟨gv, 4, none⟩ = some (.int .u64 ((0 : Nat) : Int)) ∧ wy.cell? ⟨gv, 5, none⟩ = some (.int .u64 ((2 : Nat) : Int))) := hid (fun wy hk => by
    have ho := owns_keep (w' := wy) hown (fun k hk' => hk.block k (hown.lt k hk').2 id)
    exact ⟨owns3_cell wcl_len ho (i := 1) (r := 0) (x := ⟨true, 0, 2⟩) rfl rfl, owns3_cell wcl_len ho (i := 1) (r := 1) (x := ⟨true, 0, 2⟩) rfl rfl, owns3_cell wcl_len ho (i := 1) (r := 2) (x := ⟨true, 0, 2⟩) rfl rfl⟩)
  clear hown hk14
  have HEL : Hid (∀ wy, Keep (fun _ => False) w14.drew wy → Calls Try.prog 19 #[.slice (some ⟨sb, 0, none⟩) 3 3] wy fun r w' => r = .returned (iV 3) ∧ Keep (fun _ => False) wy w') := hid (fun wy hk => by
    have h := lay_elems FA (some ⟨sb, 0, none⟩) 3 wy fa1 (by decide) (HFA.out _ (HF3.out.trans (HT14.out.trans hk)))
    rwa [fa10] at h)
  go_upto_region 6 with fail
  obtain ⟨⟨p0, p1⟩, p4, p5⟩ := HCP.out _ HT14.out
  obtain ⟨v3, v4, v5⟩ := HCV.out _ (Keep.refl _ _)
  refine Plan.wp_region_pl3 [(false, 0, []), (false, 1, []), (false, 2, []), (false, 3, []), (false, 4, []), (false, 5, []), (false, 6, []), (false, 7, []), (false, 8, []), (false, 9, []), (false, 10, []), (false, 11, []), (false, 12, []), (false, 13, []), (false, 14, []), (false, 15, []), (false, 16, []), (false, 17, []), (false, 18, []), (false, 19, []), (false, 20, []), (false, 21, []), (false, 22, []), (false, 23, []), (false, 24, []), (false, 25, []), (false, 26, []), (false, 27, []), (false, 28, []), (false, 29, []), (false, 30, []), (false, 31, []), (false, 32, []), (false, 33, []), (false, 34, []), (false, 35, []), (false, 36, []), (false, 37, []), (false, 38, []), (false, 39, []), (false, 40, []), (false, 41, []), (false, 42, []), (false, 43, []), (false, 44, []), (false, 45, []), (false, 46, []), (false, 47, []), (false, 48, []), (false, 49, []), (false, 50, []), (false, 51, []), (true, 52, [51, 50, 49]), (false, 53, []), (false, 54, []), (false, 55, []), (false, 56, []), (true, 57, []), (false, 58, []), (false, 59, []), (false, 60, [])] (by as_aux_lemma => kernel_rfl) (by as_aux_lemma => kernel_rfl) ?_
  iterate 34 (refine Plan.pl_st rfl ?_; go_big_quiet_step (fail); refine wpQuiet_nil ?_)
  iterate 18 (refine Plan.pl_st rfl ?_; go_big_quiet_step (fail); refine wpQuiet_nil ?_)
  refine Plan.pl_ac rfl ?_
  go_wp2_with fail
  refine (w_ofm2 _).mono ?_
  rintro r w15 ⟨rfl, hk15⟩
  clear p0 p1 p4 p5 v3 v4 v5
  have HK15 := hid (HK14.out.trans hk15); have HT15 := hid (HT14.out.trans hk15)
  obtain ⟨⟨p0, p1⟩, p4, p5⟩ := HCP.out _ HT15.out
  obtain ⟨v3, v4, v5⟩ := HCV.out _ hk15
  have HE15 := hid (HEL.out _ hk15)
  clear hk15
  go_wp2
  refine Plan.plQ_mk ?_ ?_
  · iterate 3 (refine Plan.chk_st rfl ?_ ?_; focus (go_big_quiet_step (fail); exact wpQuiet_nil rfl))
    exact Plan.chk_end
  iterate 4 (refine Plan.pl_st rfl ?_; go_big_quiet_step (fail); refine wpQuiet_nil ?_)
  refine Plan.pl_ac rfl ?_
  go_wp2_with fail
  refine HE15.out.mono ?_
  rintro r w16 ⟨rfl, hk16⟩
  have HK16 := hid (HK15.out.trans hk16)
  clear hk16 p0 p1 p4 p5 v3 v4 v5
  go_wp2
  refine Plan.plQ_mk Plan.chk_end ?_
  iterate 3 (refine Plan.pl_st rfl ?_; go_big_quiet_step (fail); refine wpQuiet_nil ?_)
  refine Plan.pl_end ?_
  go_wp2
  go_ret
  exact ⟨rfl, HK1.out.trans HK16.out⟩
end Go.Proofs.Ytkgkcnmnfhehfaa
