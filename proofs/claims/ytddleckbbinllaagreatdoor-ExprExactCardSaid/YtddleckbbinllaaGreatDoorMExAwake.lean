/- What is proved: the sample of the formulas' laws: its answers are the document's. -/
import Derived.Test.YtddleckbbinllaaGreatDoorMExDecLaw
import Derived.Test.YtddleckbbinllaaGreatDoorMExEval
import Derived.Test.YtddleckbbinllaaGreatDoorMWideText
import Derived.Test.YtddleckbbinllaaGreatDoorMExpr2
import Derived.Test.YtddleckbbinllaaGreatDoorMWide2
import Derived.Test.YtddleckbbinllaaGreatDoorMHeap
import Derived.Laws.Rows
import Derived.Test.YtddleckbbinllaaGreatDoorMRegion
namespace Go.Proofs.YtddleckbbinllaaGreatDoor
open Go.RowKit Go.Proofs.Heap Go.Proofs.Sch Go.Proofs.Wide

section
variable {P : Program} {ops : Array Oper}
theorem quiet_eql_g {Q : Act → Prop} {rest : List Oper} {a : Act} {o : Oper} {w : World} (hgd : Region.wanted o (yielded ops a.tmps) = true) (t u : TypeId) (x y : Operand) (xs ys : Array Value) (b : Bool) (ho : o.op = .binOp .eql t x y u) (hx : a.eval x = .agg xs) (hy : a.eval y = .agg ys)
    (hm : P.eqGuardType P.depth t = false) (hl : (binOp .eql t (.agg xs) (.agg ys)).run P w = .ok (.bool b) w) (h : wpQuiet P ops (fun w' => w' = w) Q rest (a.put o.dst (.bool b))) : wpQuiet P ops (fun w' => w' = w) Q (o :: rest) a := by
  refine BigFrame.wpQuiet_want hgd fun K hK => ⟨.bool b, fun w' hw' => ?_, hK _ h⟩
  subst hw'
  have hg := fun (o1 o2 : Operand) => run_eqGuard_agg (P := P) (w := w') .eql t o1 o2 xs ys hm
  unfold Oper.quietAt execOp
  simp [ho, hx, hy, hl, hg]
  exact ⟨rfl, rfl⟩
end
theorem smp_eqH (w : World) : (binOp .eql 44 (.agg #[.int .i64 3, .int .i64 3, .int .i64 0, .bool false, .int .u64 0, .int .u64 0]) (.agg #[.int .i64 3, .int .i64 3, .int .i64 0, .bool false, .int .u64 0, .int .u64 0])).run Tryz.prog w = .ok (.bool true) w := by kernel_rfl
theorem smp_eqI (w : World) : (binOp .eql 30 (.agg #[.bool false, .int .u64 0, .int .u64 42]) (.agg #[.bool false, .int .u64 0, .int .u64 42])).run Tryz.prog w = .ok (.bool true) w := by kernel_rfl
abbrev smpC : List Ins := [⟨2, 0, 0, zW⟩, ⟨1, 0, 0, ⟨false, 0, 2⟩⟩, ⟨7, 0, 0, zW⟩]
abbrev smpN : List Ins := [⟨1, 0, 0, zW⟩, ⟨1, 0, 0, zW⟩, ⟨17, 0, 0, zW⟩]
abbrev smpH : List Ins := [⟨3, 3, 0, zW⟩]
theorem smp_eval : evalW [[⟨false, 0, 21⟩]] 0 smpC = (⟨false, 0, 42⟩, 0) := by decide +kernel
theorem smp_range : evalW [] 0 smpC = (zW, 3) := by decide +kernel
theorem smp_need : evalW [] 0 smpN = (zW, 9) := by decide +kernel
theorem smp_fitC : ∀ x ∈ smpC, x.k.fit := by
  intro x hx
  simp only [smpC, List.mem_cons, List.not_mem_nil, or_false] at hx
  rcases hx with rfl | rfl | rfl
  · exact zW_fit
  · exact ⟨by decide, by decide⟩
  · exact zW_fit
theorem smp_fitN : ∀ x ∈ smpN, x.k.fit := by
  intro x hx
  simp only [smpN, List.mem_cons, List.not_mem_nil, or_false] at hx
  rcases hx with rfl | rfl | rfl <;> exact zW_fit
theorem smp_fitH : ∀ x ∈ smpH, x.k.fit := by
  intro x hx; obtain rfl := List.mem_singleton.1 hx; exact zW_fit
theorem smp_encC : encC smpH = 0 := by
  refine encC_of (by decide +kernel) ?_
  decide +kernel
theorem smp_enc : expS smpH = ⟨#[1, 3, 3]⟩ := by
  unfold expS
  rw [if_pos smp_encC]
  decide +kernel
theorem smp_dec : decX ⟨#[1, 3, 3]⟩ = smpH ∧ decEX ⟨#[1, 3, 3]⟩ = 0 := by
  have h := decX_enc smp_encC (smp_fitH)
  rw [smp_enc] at h
  exact h
theorem smp_it0 : itB 0 = ⟨#[48]⟩ := by unfold itB Lib.itoa; rw [if_neg (by decide)]; rw [show (0 : Int).toNat = 0 from rfl, Lib.decDigits_one (by decide)]; rfl
theorem smp_t2 : textW ⟨false, 0, 2⟩ = ⟨#[50]⟩ := by
  have hd : Lib.decDigits (WI.mag ⟨false, 0, 2⟩) = [50] := by
    rw [show WI.mag ⟨false, 0, 2⟩ = 2 by decide, Lib.decDigits_one (by decide)]; rfl
  unfold textW
  rw [if_pos (by decide)]
  simp only [hd]
  rfl
theorem smp_show : showX smpC = ⟨#[109, 117, 108, 40, 102, 48, 46, 48, 44, 50, 41]⟩ := by
  have e1 : leafT ⟨2, 0, 0, zW⟩ = ⟨#[102, 48, 46, 48]⟩ := by
    show (⟨#[102]⟩ ++ itB 0 ++ ⟨#[46]⟩ ++ itB 0 : ByteArray) = _
    rw [smp_it0]; decide +kernel
  have e2 : leafT ⟨1, 0, 0, ⟨false, 0, 2⟩⟩ = ⟨#[50]⟩ := smp_t2
  have e3 : showRun [] smpC = [insT ⟨7, 0, 0, zW⟩ [leafT ⟨2, 0, 0, zW⟩, leafT ⟨1, 0, 0, ⟨false, 0, 2⟩⟩]] := rfl
  unfold showX
  rw [if_pos (by decide +kernel), e3, e1, e2]
  decide +kernel
theorem smp_uses : usesL smpC = [⟨2, 0, 0, zW⟩] := by rfl
theorem ip3 {w : World} {g : Nat} {x y z : Ins} (h : w.heap[g]? = some (.cells ((icl x ++ icl y ++ icl z).toArray) 44 (0, 0))) : IP w w.heap.size (some ⟨g, 0, none⟩) [x, y, z] := by
  refine .inr ⟨g, 0, rfl, lt_of_heap h, fun i u hx => ?_⟩
  match i, hx with
  | 0, hx => injection hx with hx; subst hx; exact ⟨cell_of h rfl, cell_of h rfl, cell_of h rfl, cell_of h rfl, cell_of h rfl, cell_of h rfl⟩
  | 1, hx => injection hx with hx; subst hx; exact ⟨cell_of h rfl, cell_of h rfl, cell_of h rfl, cell_of h rfl, cell_of h rfl, cell_of h rfl⟩
  | 2, hx => injection hx with hx; subst hx; exact ⟨cell_of h rfl, cell_of h rfl, cell_of h rfl, cell_of h rfl, cell_of h rfl, cell_of h rfl⟩
  | j + 3, hx => simp at hx
theorem ip1 {w : World} {g : Nat} {x : Ins} (h : w.heap[g]? = some (.cells ((icl x).toArray) 44 (0, 0))) : IP w w.heap.size (some ⟨g, 0, none⟩) [x] := by
  refine .inr ⟨g, 0, rfl, lt_of_heap h, fun i u hx => ?_⟩
  match i, hx with
  | 0, hx => injection hx with hx; subst hx; exact ⟨cell_of h rfl, cell_of h rfl, cell_of h rfl, cell_of h rfl, cell_of h rfl, cell_of h rfl⟩
  | j + 1, hx => simp at hx
theorem yp_one {w : World} {g h c : Nat} {x : WI} (hh : w.heap[h]? = some (.cells #[.slice (some ⟨g, 0, none⟩) 1 c] 94 (0, 0))) (hc : 1 ≤ c) (hg : w.heap[g]? = some (.cells (WC x) 30 (0, 0))) : YP w w.heap.size (some ⟨h, 0, none⟩) [[x]] := by
  refine .inr ⟨h, 0, rfl, lt_of_heap hh, fun i u hx => ?_⟩
  match i, hx with
  | 0, hx =>
    injection hx with hx; subst hx
    refine ⟨some ⟨g, 0, none⟩, c, cell_of hh rfl, hc, .inr ⟨g, 0, rfl, lt_of_heap hg, fun j v hv => ?_⟩⟩
    match j, hv with
    | 0, hv => injection hv with hv; subst hv; exact ⟨cell_of hg rfl, cell_of hg rfl, cell_of hg rfl⟩
    | j + 1, hv => simp at hv
  | j + 1, hx => simp at hx

set_option maxRecDepth 20000 in
set_option maxHeartbeats 16000000 in
theorem ex_awake (w : World) : Calls Tryz.prog 9 #[] w fun r w' => r = .returned (.bool true) ∧ Keep (fun _ => False) w w' := by
  go_enter Tryz.func9, Tryz.ntmps9
  go_wp2_with fail
  refine (w_of 2 (by omega) _).mono ?_
  rintro r w1 ⟨rfl, hk⟩
  have HK1 := hid hk
  clear hk
  obtain ⟨w2, hw2, hb2, hs2, hk2⟩ := box1 w1 #[.int .i64 2, .int .i64 0, .int .i64 0, .bool false, .int .u64 0, .int .u64 0, .int .i64 1, .int .i64 0, .int .i64 0, .bool false, .int .u64 0, .int .u64 2, .int .i64 7, .int .i64 0, .int .i64 0, .bool false, .int .u64 0, .int .u64 0] 44
  have HC2 : Hid (w2.heap[w1.heap.size]? = some (.cells ((icl ⟨2, 0, 0, zW⟩ ++ icl ⟨1, 0, 0, ⟨false, 0, 2⟩⟩ ++ icl ⟨7, 0, 0, zW⟩).toArray) 44 (0, 0))) := hid hb2
  have HK2 := hid (HK1.out.trans hk2)
  clear hb2 hs2 hk2
  go_upto_region 2 with fail
  rw [← hw2]
  clear hw2
  generalize w1.heap.size = cb at *
  go_wp2_with fail
  refine (w_of 21 (by omega) _).mono ?_
  rintro r w3 ⟨rfl, hk⟩
  have HK3 := hid (HK2.out.trans hk)
  have HC3 := hid (hk.get HC2.out id)
  clear hk
  obtain ⟨w4, hw4, hb4, hb5, hs4, hk4⟩ := box2 w3 #[.bool false, .int .u64 0, .int .u64 21] #[.slice (some ⟨w3.heap.size, 0, none⟩) 1 1] 30 94
  have HY4 : Hid (YP w4 w4.heap.size (some ⟨w3.heap.size + 1, 0, none⟩) [[⟨false, 0, 21⟩]]) := hid (yp_one hb5 (Nat.le_refl _) hb4)
  have HK4 := hid (HK3.out.trans hk4)
  have HC4 := hid (hk4.get HC3.out id)
  clear hb4 hb5 hs4 hk4
  have HEV := hid (expr_eval smpC (some ⟨cb, 0, none⟩) 3 [[⟨false, 0, 21⟩]] (some ⟨w3.heap.size + 1, 0, none⟩) 1 0 w4 smp_fitC (by intro l hl; obtain rfl := List.mem_singleton.1 hl; intro x hx; obtain rfl := List.mem_singleton.1 hx; exact ⟨by decide, by decide⟩) (by omega) (ip3 HC4.out) HY4.out)
  rw [smp_eval] at HEV
  go_wp2_with fail
  rw [← hw4]
  refine HEV.out.mono ?_
  rintro r w5 ⟨rfl, hk⟩
  have HK5 := hid (HK4.out.trans hk)
  have HC5 := hid (hk.get HC4.out id)
  clear hk hw4 HEV
  obtain ⟨w6, hw6, hb6, hs6, hk6⟩ := box1 w5 #[.bool false, .int .u64 0, .int .u64 42] 30
  have HX6 := hid hb6
  have HK6 := hid (HK5.out.trans hk6)
  have HC6 := hid (hk6.get HC5.out id)
  clear hb6 hs6 hk6
  go_upto_region 3 with fail
  rw [← hw6]
  clear hw6
  generalize w5.heap.size = xb at *
  have HEV := hid (expr_eval smpC (some ⟨cb, 0, none⟩) 3 [] none 0 0 w6 smp_fitC (by intro l hl; simp at hl) (by omega) (ip3 HC6.out) (.inl rfl))
  rw [smp_range] at HEV
  go_wp2_with fail
  refine HEV.out.mono ?_
  rintro r w7 ⟨rfl, hk⟩
  have HK7 := hid (HK6.out.trans hk)
  have HC7 := hid (hk.get HC6.out id); have HX7 := hid (hk.get HX6.out id)
  clear hk HEV
  obtain ⟨w8, hw8, hb8, hs8, hk8⟩ := box1 w7 #[.bool false, .int .u64 0, .int .u64 0] 30
  have HK8 := hid (HK7.out.trans hk8)
  have HC8 := hid (hk8.get HC7.out id); have HX8 := hid (hk8.get HX7.out id)
  clear hb8 hs8 hk8
  go_upto_region 4 with fail
  rw [← hw8]
  clear hw8
  generalize w7.heap.size = yb at *
  obtain ⟨w9, hw9, hb9, hs9, hk9⟩ := box1 w8 #[.int .i64 1, .int .i64 0, .int .i64 0, .bool false, .int .u64 0, .int .u64 0, .int .i64 1, .int .i64 0, .int .i64 0, .bool false, .int .u64 0, .int .u64 0, .int .i64 17, .int .i64 0, .int .i64 0, .bool false, .int .u64 0, .int .u64 0] 44
  have HN9 : Hid (w9.heap[w8.heap.size]? = some (.cells ((icl ⟨1, 0, 0, zW⟩ ++ icl ⟨1, 0, 0, zW⟩ ++ icl ⟨17, 0, 0, zW⟩).toArray) 44 (0, 0))) := hid hb9
  have HK9 := hid (HK8.out.trans hk9)
  have HC9 := hid (hk9.get HC8.out id); have HX9 := hid (hk9.get HX8.out id)
  clear hb9 hs9 hk9
  have HEV := hid (expr_eval smpN (some ⟨w8.heap.size, 0, none⟩) 3 [] none 0 0 w9 smp_fitN (by intro l hl; simp at hl) (by omega) (ip3 HN9.out) (.inl rfl))
  rw [smp_need] at HEV
  go_wp2_with fail
  rw [← hw9]
  clear hw9
  refine HEV.out.mono ?_
  rintro r w10 ⟨rfl, hk⟩
  have HK10 := hid (HK9.out.trans hk)
  have HC10 := hid (hk.get HC9.out id); have HX10 := hid (hk.get HX9.out id)
  clear hk HEV HN9
  generalize w8.heap.size = nb at *
  obtain ⟨w11, hw11, hb11, hs11, hk11⟩ := box1 w10 #[.bool false, .int .u64 0, .int .u64 0] 30
  have HK11 := hid (HK10.out.trans hk11)
  have HC11 := hid (hk11.get HC10.out id); have HX11 := hid (hk11.get HX10.out id)
  clear hb11 hs11 hk11
  go_upto_region 5 with fail
  rw [← hw11]
  clear hw11
  generalize w10.heap.size = zb at *
  obtain ⟨w12, hw12, hb12, hs12, hk12⟩ := box1 w11 #[.int .i64 3, .int .i64 3, .int .i64 0, .bool false, .int .u64 0, .int .u64 0] 44
  have HN12 : Hid (w12.heap[w11.heap.size]? = some (.cells ((icl ⟨3, 3, 0, zW⟩).toArray) 44 (0, 0))) := hid hb12
  have HK12 := hid (HK11.out.trans hk12)
  have HC12 := hid (hk12.get HC11.out id); have HX12 := hid (hk12.get HX11.out id)
  clear hb12 hs12 hk12
  have HEN := hid (expr_encodeX smpH (some ⟨w11.heap.size, 0, none⟩) 1 w12 smp_fitH (ip1 HN12.out))
  rw [smp_enc, smp_encC] at HEN
  go_wp2_with fail
  rw [← hw12]
  clear hw12
  refine HEN.out.mono ?_
  rintro r w13 ⟨rfl, hk⟩
  have HK13 := hid (HK12.out.trans hk)
  have HC13 := hid (hk.get HC12.out id); have HX13 := hid (hk.get HX12.out id)
  clear hk HEN HN12
  generalize w11.heap.size = hb at *
  have HDE := hid (ex_decode ⟨#[1, 3, 3]⟩ w13 (by decide))
  unfold DecI at HDE
  rw [smp_dec.1, smp_dec.2] at HDE
  go_wp2_with fail
  refine HDE.out.mono ?_
  rintro r w14 ⟨dp, dc, rfl, hown, hk⟩
  have HK14 := hid (HK13.out.trans hk)
  have HC14 := hid (hk.get HC13.out id); have HX14 := hid (hk.get HX13.out id)
  obtain ⟨db, rfl⟩ := owns_some hown (by decide)
  have HDP := hid (ip_own rfl hown)
  clear hk HDE hown
  go_upto_region 7 with fail
  have HK15 := hid HK14.out.drew; have HC15 : Hid (w14.drew.heap[cb]? = _) := hid HC14.out; have HX15 : Hid (w14.drew.heap[xb]? = _) := hid HX14.out
  have HD15 : Hid (IP w14.drew w14.drew.heap.size (some ⟨db, 0, none⟩) [⟨3, 3, 0, zW⟩]) := hid HDP.out
  refine Plan.wp_region_pl3 [(false, 0, []), (false, 1, []), (false, 2, []), (false, 3, []), (true, 4, [3]), (false, 5, []), (false, 6, []), (false, 7, []), (false, 8, []), (false, 9, []), (false, 10, []), (false, 11, []), (false, 12, []), (false, 13, []), (false, 14, []), (false, 15, []), (false, 16, []), (false, 17, []), (false, 18, []), (false, 19, []), (false, 20, []), (false, 21, []), (false, 22, []), (false, 23, []), (false, 24, []), (false, 25, []), (false, 26, []), (false, 27, []), (false, 28, []), (false, 29, []), (false, 30, []), (false, 31, []), (false, 32, []), (false, 33, []), (false, 34, []), (false, 35, []), (false, 36, []), (false, 37, []), (false, 38, []), (false, 39, []), (false, 40, []), (true, 41, []), (false, 42, []), (false, 43, []), (false, 44, []), (true, 45, []), (false, 46, []), (false, 47, []), (false, 48, []), (false, 49, []), (true, 50, []), (false, 51, []), (false, 52, []), (false, 53, []), (false, 54, [])] (by as_aux_lemma => kernel_rfl) (by as_aux_lemma => kernel_rfl) ?_
  clear HDP
  generalize w14.drew = w15 at *
  have x0 : w15.cell? ⟨xb, 0, none⟩ = some (.bool false) := cell_of HX15.out (by rfl)
  have x1 : w15.cell? ⟨xb, 1, none⟩ = some (.int .u64 0) := cell_of HX15.out (by rfl)
  have x2 : w15.cell? ⟨xb, 2, none⟩ = some (.int .u64 42) := cell_of HX15.out (by rfl)
  iterate 4 (refine Plan.pl_st rfl ?_; go_big_quiet_step (fail); refine wpQuiet_nil ?_)
  refine Plan.pl_ac rfl ?_
  go_wp2_with fail
  refine (w_of 42 (by omega) _).mono ?_
  rintro r w16 ⟨rfl, hk⟩
  have HK16 := hid (HK15.out.trans hk); have HC16 := hid (hk.get HC15.out id); have HX16 := hid (hk.get HX15.out id)
  have HD16 := hid (IP.low HD15.out (Low.keep0 hk))
  clear hk x0 x1 x2
  have x0 : w16.cell? ⟨xb, 0, none⟩ = some (.bool false) := cell_of HX16.out (by rfl)
  have x1 : w16.cell? ⟨xb, 1, none⟩ = some (.int .u64 0) := cell_of HX16.out (by rfl)
  have x2 : w16.cell? ⟨xb, 2, none⟩ = some (.int .u64 42) := cell_of HX16.out (by rfl)
  go_wp2
  refine Plan.plQ_mk ?_ ?_
  · iterate 1 (refine Plan.chk_st rfl ?_ ?_; focus (go_big_quiet_step (fail); exact wpQuiet_nil rfl))
    exact Plan.chk_end
  refine Plan.pl_st rfl ?_
  refine quiet_eql_g rfl _ _ _ _ _ _ _ rfl (by rfl) (by rfl) (by kernel_rfl) (smp_eqI _) ?_
  simp only [Act.put, List.setIfInBounds_toArray, List.set_cons_succ, List.set_cons_zero]
  refine wpQuiet_nil ?_
  clear x0 x1 x2
  iterate 29 (refine Plan.pl_st rfl ?_; go_big_quiet_step (fail); refine wpQuiet_nil ?_)
  obtain ⟨db2, do2, he, _, d0, d1, d2, d3, d4, d5⟩ := IP.at HD16.out (i := 0) rfl
  injection he with he; injection he with he1 he2 _; subst he1 he2
  simp only [Nat.zero_mul, Nat.add_zero, Nat.zero_add] at d0 d1 d2 d3 d4 d5
  iterate 2 (refine Plan.pl_st rfl ?_; go_big_quiet_step (fail); refine wpQuiet_nil ?_)
  clear d0 d1 d2 d3 d4 d5
  refine Plan.pl_st rfl ?_
  refine quiet_eql_g rfl _ _ _ _ _ _ _ rfl (by rfl) (by rfl) (by kernel_rfl) (smp_eqH _) ?_
  simp only [Act.put, List.setIfInBounds_toArray, List.set_cons_succ, List.set_cons_zero]
  refine wpQuiet_nil ?_
  iterate 3 (refine Plan.pl_st rfl ?_; go_big_quiet_step (fail); refine wpQuiet_nil ?_)
  have HSH := hid (expr_show smpC (some ⟨cb, 0, none⟩) 3 w16 smp_fitC (ip3 HC16.out))
  rw [smp_show] at HSH
  refine Plan.pl_ac rfl ?_
  go_wp2_with fail
  refine HSH.out.mono ?_
  rintro r w17 ⟨rfl, hk⟩
  have HK17 := hid (HK16.out.trans hk); have HC17 := hid (hk.get HC16.out id)
  clear hk HSH
  go_wp2
  refine Plan.plQ_mk Plan.chk_end ?_
  iterate 3 (refine Plan.pl_st rfl ?_; go_big_quiet_step (fail); refine wpQuiet_nil ?_)
  have HCH : Hid (Calls Tryz.prog 14 #[.slice none 0 0] w17 fun r w' => r = .returned (iV 4) ∧ Keep (fun _ => False) w17 w') := hid (expr_check [] none 0 w17 (by intro x hx; simp at hx) (.inl rfl))
  refine Plan.pl_ac rfl ?_
  go_wp2_with fail
  refine HCH.out.mono ?_
  rintro r w18 ⟨rfl, hk⟩
  have HK18 := hid (HK17.out.trans hk); have HC18 := hid (hk.get HC17.out id)
  clear hk HCH
  go_wp2
  refine Plan.plQ_mk Plan.chk_end ?_
  iterate 4 (refine Plan.pl_st rfl ?_; go_big_quiet_step (fail); refine wpQuiet_nil ?_)
  have HUS := hid (expr_uses smpC (some ⟨cb, 0, none⟩) 3 w18 (by decide) (ip3 HC18.out))
  rw [smp_uses] at HUS
  refine Plan.pl_ac rfl ?_
  go_wp2_with fail
  refine HUS.out.mono ?_
  rintro r w19 ⟨up, uc, rfl, _, hk⟩
  have HK19 := hid (HK18.out.trans hk)
  clear hk HUS
  go_wp2
  refine Plan.plQ_mk Plan.chk_end ?_
  iterate 4 (refine Plan.pl_st rfl ?_; go_big_quiet_step (fail); refine wpQuiet_nil ?_)
  refine Plan.pl_end ?_
  go_wp2
  go_ret
  exact ⟨rfl, HK19.out⟩
end Go.Proofs.YtddleckbbinllaaGreatDoor

namespace Go.Proofs.YtddleckbbinllaaGreatDoor
open Go.RowKit Go.Proofs.Heap Go.Proofs.Sch Go.Proofs.Wide

/-- More than is asked. -/
def greatX (code : List Ins) (fs : List (List WI)) : Bool := decide (80 < code.length) || (decide (12 < fs.length) || fs.any (fun l => decide (20 < l.length)))
theorem greatX_no {code : List Ins} {fs : List (List WI)} (h : greatX code fs = false) : code.length ≤ 80 ∧ fs.length ≤ 12 ∧ ∀ l ∈ fs, l.length ≤ 20 := by
  unfold greatX at h
  simp only [Bool.or_eq_false_iff, decide_eq_false_iff_not, List.any_eq_false, decide_eq_true_eq] at h
  exact ⟨by omega, by omega, fun t ht => by have := h.2.2 t ht; omega⟩

set_option maxRecDepth 20000 in
set_option maxHeartbeats 8000000 in
theorem ex_great (code : List Ins) (p : Option Addr) (c : Nat) (fs : List (List WI)) (q : Option Addr) (qc : Nat) (w : World) (hq : YP w w.heap.size q fs) :
    Calls Tryz.prog 10 #[.slice p code.length c, .slice q fs.length qc] w fun r w' => r = .returned (.bool (greatX code fs)) ∧ Keep (fun _ => False) w w' := by
  have HY := hid (fun (wy : World) (hk : Keep (fun _ => False) w wy) => YP.low hq (Low.keep0 hk))
  have HR : Hid (greatX code fs = (decide (80 < code.length) || (decide (12 < fs.length) || fs.any (fun l => decide (20 < l.length))))) := hid rfl
  generalize greatX code fs = R at *
  clear hq
  go_enter Tryz.func10, Tryz.ntmps10
  cases e1 : decide (80 < code.length)
  rotate_left
  · have G : Hid (R = true) := hid (by rw [HR.out, e1]; rfl)
    have e1' : decide ((80 : Int) < (code.length : Int)) = true := decide_eq_true (by have := of_decide_eq_true e1; omega)
    go_wp2
    go_ret
    exact ⟨by rw [G.out]; rfl, Keep.refl _ _⟩
  have e1' : decide ((80 : Int) < (code.length : Int)) = false := decide_eq_false (by have := of_decide_eq_false e1; omega)
  cases e2 : decide (12 < fs.length)
  rotate_left
  · have G : Hid (R = true) := hid (by rw [HR.out, e1, e2]; rfl)
    have e2' : decide ((12 : Int) < (fs.length : Int)) = true := decide_eq_true (by have := of_decide_eq_true e2; omega)
    go_wp2
    go_ret
    exact ⟨by rw [G.out]; rfl, Keep.refl _ _⟩
  have e2' : decide ((12 : Int) < (fs.length : Int)) = false := decide_eq_false (by have := of_decide_eq_false e2; omega)
  have HR2 : Hid (R = fs.any (fun l => decide (20 < l.length))) := hid (by rw [HR.out, e1, e2]; rfl)
  have hl : fs.length ≤ 12 := by have := of_decide_eq_false e2; omega
  go_wp2_with fail
  clear e1 e2 e1' e2' HR
  go_loopw [5] (fun i wr => ∃ k : Nat, k ≤ fs.length ∧ i = iV k ∧ (∀ j t, j < k → fs[j]? = some t → ¬ 20 < t.length) ∧ Keep (fun _ => False) w wr) (fun i _ => fs.length + 1 - (RowKit.intOf i).toNat)
  case atStart => exact ⟨0, Nat.zero_le _, rfl, fun j t hj => by omega, Keep.refl _ _⟩
  case round =>
    obtain ⟨k, hk, rfl, hal, hkr⟩ := hrel
    have HAL := hid hal; have HKR := hid hkr
    clear hal hkr
    by_cases hlt : k < fs.length
    · obtain ⟨t, ht⟩ : ∃ t, fs[k]? = some t := ⟨fs[k], by simp [hlt]⟩
      obtain ⟨b1, o1, tp, tc, rfl, hb1, x0, _⟩ := YP.at (HY.out wr HKR.out) ht
      have hin : (0 : Int) ≤ (k : Int) ∧ (k : Int) < (fs.length : Int) := ⟨by omega, by omega⟩
      by_cases hg : 20 < t.length
      · have G : Hid (R = true) := hid (by
          rw [HR2.out, List.any_eq_true]
          exact ⟨t, List.mem_of_getElem? ht, decide_eq_true hg⟩)
        have g1 : decide ((20 : Int) < (t.length : Int)) = true := decide_eq_true (by omega)
        have g2 : decide (20 < t.length) = true := decide_eq_true hg
        clear ht hg
        go_wp2
        go_ret
        exact ⟨by rw [G.out]; rfl, HKR.out⟩
      · have HN : Hid (∀ j t, j < k + 1 → fs[j]? = some t → ¬ 20 < t.length) := hid (fun j u hj hu => by
          rcases Nat.lt_or_ge j k with h | h
          · exact HAL.out j u h hu
          · obtain rfl : j = k := by omega
            rw [ht] at hu; injection hu with hu; subst hu; exact hg)
        have g1 : decide ((20 : Int) < (t.length : Int)) = false := decide_eq_false (by omega)
        have g2 : decide (20 < t.length) = false := decide_eq_false hg
        clear ht hg
        go_wp2
        go_roundw
        case rel => exact ⟨k + 1, by omega, by go_num, HN.out, HKR.out⟩
        case measure => simp [intOf]; omega
    · obtain rfl : k = fs.length := by omega
      have G : Hid (R = false) := hid (by
        rw [HR2.out, List.any_eq_false]
        intro t ht
        obtain ⟨j, hj⟩ := List.getElem?_of_mem ht
        have := HAL.out j t (List.getElem?_eq_some_iff.1 hj).1 hj
        simpa using this)
      go_wp2
      go_ret
      exact ⟨by rw [G.out]; rfl, HKR.out⟩
end Go.Proofs.YtddleckbbinllaaGreatDoor

namespace Go.Proofs.YtddleckbbinllaaGreatDoor
open Go.RowKit Go.Proofs.Heap Go.Proofs.Sch Go.Proofs.Wide

def ruleRun (old : Cmp) : List Fld → List (List Ins) → Nat
  | f :: fs, c :: cs => if formC old f c = 0 then ruleRun old fs cs else formC old f c
  | _, _ => 0
/-- The error of a rule. -/
def ruleC (old new : Cmp) (r : Rul) : Nat := if r.old = 0 then 0 else if r.exprs.length = new.fs.length then ruleRun old new.fs r.exprs else 4

end Go.Proofs.YtddleckbbinllaaGreatDoor

namespace Go.Proofs.YtddleckbbinllaaGreatDoor
open Go.RowKit Go.Proofs.Heap Go.Proofs.Sch Go.Proofs.Wide

/-- How many numbers an operation takes, as the document says it. -/
def takesN (op : Int) : Nat := if 5 ≤ op ∧ op ≤ 17 then argsN op else 0
theorem takesN_eq {op : Int} (h1 : 1 ≤ op) (h2 : op ≤ 17) : takesN op = argsN op := by
  unfold takesN
  by_cases h : 5 ≤ op
  · rw [if_pos ⟨h, h2⟩]
  · rw [if_neg (fun e => h e.1)]
    unfold argsN
    rw [if_pos (by omega)]

set_option maxRecDepth 20000 in
set_option maxHeartbeats 8000000 in
theorem takes_of (op : Int) (w : World) : Calls Tryz.prog 47 #[.int .i64 op] w fun r w' => r = .returned (.int .i64 (takesN op : Int)) ∧ Keep (fun _ => False) w w' := by
  by_cases h5 : 5 ≤ op
  rotate_left
  · have g1 : decide (op < 5) = true := decide_eq_true (by omega)
    have G : Hid (takesN op = 0) := hid (by unfold takesN; rw [if_neg (fun e => h5 e.1)])
    go_enter Tryz.func47, Tryz.ntmps47
    go_wp2
    go_ret
    exact ⟨by rw [G.out]; rfl, Keep.refl _ _⟩
  by_cases h17 : op ≤ 17
  rotate_left
  · have g1 : decide (op < 5) = false := decide_eq_false (by omega)
    have g2 : decide (17 < op) = true := decide_eq_true (by omega)
    have G : Hid (takesN op = 0) := hid (by unfold takesN; rw [if_neg (fun e => h17 e.2)])
    go_enter Tryz.func47, Tryz.ntmps47
    go_wp2
    go_ret
    exact ⟨by rw [G.out]; rfl, Keep.refl _ _⟩
  have hcs : op = 5 ∨ op = 6 ∨ op = 7 ∨ op = 8 ∨ op = 9 ∨ op = 10 ∨ op = 11 ∨ op = 12 ∨ op = 13 ∨ op = 14 ∨ op = 15 ∨ op = 16 ∨ op = 17 := by omega
  have g1 : decide (op < 5) = false := decide_eq_false (by omega)
  have g2 : decide (17 < op) = false := decide_eq_false (by omega)
  obtain ⟨w1, hw1, hb1, hs1, hk1⟩ := box1 w #[.int .i64 0, .int .i64 0, .int .i64 0, .int .i64 0, .int .i64 0, .int .i64 2, .int .i64 2, .int .i64 2, .int .i64 2, .int .i64 2, .int .i64 1, .int .i64 2, .int .i64 2, .int .i64 2, .int .i64 2, .int .i64 1, .int .i64 3, .int .i64 2] 148
  have HK := hid hk1
  have HB := hid hb1
  have HCS := hid hcs
  clear hs1 hk1 hb1 hcs h5 h17
  go_enter Tryz.func47, Tryz.ntmps47
  go_upto_region 4 with fail
  rw [← hw1]
  clear hw1 g1 g2
  generalize w.heap.size = sb at *
  generalize (Value.agg #[.int .i64 0, .int .i64 0, .int .i64 0, .int .i64 0, .int .i64 0, .int .i64 2, .int .i64 2, .int .i64 2, .int .i64 2, .int .i64 2, .int .i64 1, .int .i64 2, .int .i64 2, .int .i64 2, .int .i64 2, .int .i64 1, .int .i64 3, .int .i64 2]) = av at *
  rcases HCS.out with rfl | rfl | rfl | rfl | rfl | rfl | rfl | rfl | rfl | rfl | rfl | rfl | rfl
  · have c : w1.cell? ⟨sb, 5, none⟩ = some (.int .i64 2) := cell_of HB.out (by rfl)
    clear HB HCS
    go_wp2
    go_ret
    exact ⟨rfl, HK.out⟩
  · have c : w1.cell? ⟨sb, 6, none⟩ = some (.int .i64 2) := cell_of HB.out (by rfl)
    clear HB HCS
    go_wp2
    go_ret
    exact ⟨rfl, HK.out⟩
  · have c : w1.cell? ⟨sb, 7, none⟩ = some (.int .i64 2) := cell_of HB.out (by rfl)
    clear HB HCS
    go_wp2
    go_ret
    exact ⟨rfl, HK.out⟩
  · have c : w1.cell? ⟨sb, 8, none⟩ = some (.int .i64 2) := cell_of HB.out (by rfl)
    clear HB HCS
    go_wp2
    go_ret
    exact ⟨rfl, HK.out⟩
  · have c : w1.cell? ⟨sb, 9, none⟩ = some (.int .i64 2) := cell_of HB.out (by rfl)
    clear HB HCS
    go_wp2
    go_ret
    exact ⟨rfl, HK.out⟩
  · have c : w1.cell? ⟨sb, 10, none⟩ = some (.int .i64 1) := cell_of HB.out (by rfl)
    clear HB HCS
    go_wp2
    go_ret
    exact ⟨rfl, HK.out⟩
  · have c : w1.cell? ⟨sb, 11, none⟩ = some (.int .i64 2) := cell_of HB.out (by rfl)
    clear HB HCS
    go_wp2
    go_ret
    exact ⟨rfl, HK.out⟩
  · have c : w1.cell? ⟨sb, 12, none⟩ = some (.int .i64 2) := cell_of HB.out (by rfl)
    clear HB HCS
    go_wp2
    go_ret
    exact ⟨rfl, HK.out⟩
  · have c : w1.cell? ⟨sb, 13, none⟩ = some (.int .i64 2) := cell_of HB.out (by rfl)
    clear HB HCS
    go_wp2
    go_ret
    exact ⟨rfl, HK.out⟩
  · have c : w1.cell? ⟨sb, 14, none⟩ = some (.int .i64 2) := cell_of HB.out (by rfl)
    clear HB HCS
    go_wp2
    go_ret
    exact ⟨rfl, HK.out⟩
  · have c : w1.cell? ⟨sb, 15, none⟩ = some (.int .i64 1) := cell_of HB.out (by rfl)
    clear HB HCS
    go_wp2
    go_ret
    exact ⟨rfl, HK.out⟩
  · have c : w1.cell? ⟨sb, 16, none⟩ = some (.int .i64 3) := cell_of HB.out (by rfl)
    clear HB HCS
    go_wp2
    go_ret
    exact ⟨rfl, HK.out⟩
  · have c : w1.cell? ⟨sb, 17, none⟩ = some (.int .i64 2) := cell_of HB.out (by rfl)
    clear HB HCS
    go_wp2
    go_ret
    exact ⟨rfl, HK.out⟩
end Go.Proofs.YtddleckbbinllaaGreatDoor

namespace Go.Proofs.YtddleckbbinllaaGreatDoor
open Go.RowKit Go.Proofs.Heap Go.Proofs.Wide

/-- A digit of a size. -/
def dgN (m i : Nat) : Nat := m / 256 ^ i % 256
def ncell (b : Bool) (D : Nat → Nat) (i : Nat) : Value := if i = 0 then .bool b else iV (D (i - 1))
/-- The cells of a number. -/
def nC (b : Bool) (D : Nat → Nat) : Array Value := ((List.range 41).map (ncell b D)).toArray

theorem zero_num (w : World) : (zeroValue 183).run Tryz.prog w = .ok (.agg (nC false (fun _ => 0))) w := by kernel_rfl
theorem info_num : (Tryz.prog.info? 183).map (·.size) = some 41 := by kernel_rfl

section
variable (b : Bool) (D : Nat → Nat)
theorem nC_size : (nC b D).size = 41 := by simp [nC]
theorem nC_get (i : Nat) (h : i < 41) : (nC b D)[i]? = some (ncell b D i) := by simp [nC, h]
theorem nC_dig (i : Nat) (h : i < 40) : (nC b D)[1 + i]? = some (iV (D i)) := by
  rw [nC_get _ _ _ (by omega)]; unfold ncell; rw [if_neg (by omega), show 1 + i - 1 = i by omega]
theorem nC_ext {b' : Bool} {D' : Nat → Nat} (h1 : b = b') (h2 : ∀ i, i < 40 → D i = D' i) : nC b D = nC b' D' := by
  subst h1
  apply Array.ext_getElem?
  intro i
  by_cases hi : i < 41
  · rw [nC_get _ _ _ hi, nC_get _ _ _ hi]
    unfold ncell
    by_cases h0 : i = 0
    · rw [if_pos h0, if_pos h0]
    · rw [if_neg h0, if_neg h0, h2 _ (by omega)]
  · rw [Array.getElem?_eq_none (by rw [nC_size]; omega), Array.getElem?_eq_none (by rw [nC_size]; omega)]
theorem nC_set (j x : Nat) (h : j < 40) : (nC b D).setIfInBounds (1 + j) (iV x) = nC b (fun i => if i = j then x else D i) := by
  apply Array.ext_getElem?
  intro i
  rw [Array.getElem?_setIfInBounds, nC_size]
  by_cases e : 1 + j = i
  · subst e; rw [if_pos rfl, if_pos (by omega), nC_dig _ _ _ h]; simp
  · rw [if_neg e]
    by_cases hi : i < 41
    · rw [nC_get _ _ _ hi, nC_get _ _ _ hi]
      unfold ncell
      by_cases h0 : i = 0
      · rw [if_pos h0, if_pos h0]
      · rw [if_neg h0, if_neg h0]
        show some (iV (D (i - 1))) = some (iV (if i - 1 = j then x else D (i - 1)))
        rw [if_neg (by omega)]
    · rw [Array.getElem?_eq_none (by rw [nC_size]; omega), Array.getElem?_eq_none (by rw [nC_size]; omega)]
theorem nC_one : ∀ v ∈ (nC b D).toList, v.oneCell' = true := by
  intro v hv
  simp only [nC, List.mem_map, List.mem_range] at hv
  obtain ⟨i, _, rfl⟩ := hv
  unfold ncell
  split <;> rfl
theorem nC_neg (c : Bool) : (nC b D).setIfInBounds 0 (.bool c) = nC c D := by
  apply Array.ext_getElem?
  intro i
  rw [Array.getElem?_setIfInBounds, nC_size]
  by_cases e : 0 = i
  · subst e; rw [if_pos rfl, if_pos (by omega), nC_get _ _ _ (by omega)]; rfl
  · rw [if_neg e]
    by_cases hi : i < 41
    · rw [nC_get _ _ _ hi, nC_get _ _ _ hi]
      unfold ncell
      rw [if_neg (by omega), if_neg (by omega)]
    · rw [Array.getElem?_eq_none (by rw [nC_size]; omega), Array.getElem?_eq_none (by rw [nC_size]; omega)]
theorem nC_negL (c : Bool) : (nC b D).toList.set 0 (.bool c) = (nC c D).toList := by rw [← nC_neg b D c]; simp

/-- A number in block u. -/
def NI (w : World) (u : Nat) : Prop := w.heap[u]? = some (.cells (nC b D) 183 (0, 0))
variable {b D} {w : World} {u : Nat}
theorem NI.dig (h : NI b D w u) (i : Nat) (hi : i < 40) : w.cell? ⟨u, 1 + i, none⟩ = some (iV (D i)) := cell_of h (nC_dig b D i hi)
theorem NI.free (h : NI b D w u) (k : Nat) : w.frozen? ⟨u, k, none⟩ = false := free_of h k
theorem NI.keep (h : NI b D w u) {w' : World} {T : Nat → Prop} (hk : Keep T w w') (hT : ¬ T u) : NI b D w' u := hk.get h hT
theorem NI.load (h : NI b D w u) : (loadVar 183 ⟨u, 0, none⟩).run Tryz.prog w = .ok (.agg (nC b D)) w :=
  run_loadVar_row w u _ 183 _ _ _ h Tryz.underlying183 rfl (by rw [info_num, nC_size])
theorem NI.set (h : NI b D w u) (j x : Nat) (hj : j < 40) : NI b (fun i => if i = j then x else D i) (w.setCell ⟨u, 1 + j, none⟩ (iV x)) u := by
  unfold NI; rw [hsc_same h, nC_set b D j x hj]
/-- A number stored over another one. -/
theorem num_store (h : NI b D w u) (b' : Bool) (D' : Nat → Nat) : ∃ w', (storeCells ⟨u, 0, none⟩ (nC b' D').toList).run Tryz.prog w = .ok () w' ∧ NI b' D' w' u ∧ Keep (fun k => k = u) w w' := by
  have hr := run_storeCells_at Tryz.prog u 0 _ (nC b' D').toList 0 _ w h (by rw [Array.length_toList, nC_size, nC_size]; omega) (nC_one b' D')
  refine ⟨_, hr, ?_, (Keep.refl (fun k => k = u) w).setRow rfl _⟩
  refine (setRow_heap w u _ _ _ _ h).trans ?_
  have e : (List.take (0 + 0) (nC b D).toList ++ (nC b' D').toList ++ List.drop (0 + 0 + (nC b' D').toList.length) (nC b D).toList).toArray = nC b' D' := by
    apply Array.ext'
    have h1 : (nC b D).toList.length = 41 := by rw [Array.length_toList, nC_size]
    have h2 : (nC b' D').toList.length = 41 := by rw [Array.length_toList, nC_size]
    simp [h1, h2]
  exact congrArg (fun c => some (Obj.cells c 183 (0, 0))) e
end

/-- Digits under way: k of each half. -/
def dgK (hi lo k j : Nat) : Nat := if j < k then lo / 256 ^ j % 256 else if 8 ≤ j ∧ j < 8 + k then hi / 256 ^ (j - 8) % 256 else 0
theorem dgK_next (hi lo k : Nat) (hk : k < 8) : (fun j => if j = 8 + k then hi / 256 ^ k % 256 else if j = k then lo / 256 ^ k % 256 else dgK hi lo k j) = dgK hi lo (k + 1) := by
  funext j
  unfold dgK
  by_cases h1 : j = 8 + k
  · subst h1
    rw [if_pos rfl, if_neg (by omega), if_pos (by omega), show 8 + k - 8 = k by omega]
  · rw [if_neg h1]
    by_cases h2 : j = k
    · subst h2
      rw [if_pos rfl, if_pos (by omega)]
    · rw [if_neg h2]
      by_cases h3 : j < k
      · rw [if_pos h3, if_pos (by omega)]
      · rw [if_neg h3, if_neg (show ¬ j < k + 1 by omega)]
        by_cases h4 : 8 ≤ j ∧ j < 8 + k
        · rw [if_pos h4, if_pos (by omega)]
        · rw [if_neg h4, if_neg (by omega)]
theorem dgK_end (hi lo : Nat) (h1 : hi < 18446744073709551616) (h2 : lo < 18446744073709551616) (j : Nat) : dgK hi lo 8 j = dgN (hi * 18446744073709551616 + lo) j := by
  unfold dgK dgN
  by_cases hj : j < 16
  · have hc : j = 0 ∨ j = 1 ∨ j = 2 ∨ j = 3 ∨ j = 4 ∨ j = 5 ∨ j = 6 ∨ j = 7 ∨ j = 8 ∨ j = 9 ∨ j = 10 ∨ j = 11 ∨ j = 12 ∨ j = 13 ∨ j = 14 ∨ j = 15 := by omega
    rcases hc with rfl | rfl | rfl | rfl | rfl | rfl | rfl | rfl | rfl | rfl | rfl | rfl | rfl | rfl | rfl | rfl <;> simp <;> omega
  · rw [if_neg (by omega), if_neg (by omega)]
    have : hi * 18446744073709551616 + lo < 256 ^ j := Nat.lt_of_lt_of_le (show _ < 256 ^ 16 by omega) (Nat.pow_le_pow_right (by decide) (by omega))
    rw [Nat.div_eq_of_lt this]

set_option maxRecDepth 20000 in
set_option maxHeartbeats 4000000 in
theorem r_from (x : WI) (hx : x.fit) (w : World) : Calls Tryz.prog 136 #[WV x] w fun r w' => r = .returned (.agg (nC x.neg (dgN x.mag))) ∧ Keep (fun _ => False) w w' := by
  obtain ⟨ng, hi, lo⟩ := x
  have hfit1 := hx.1
  have hfit2 := hx.2
  simp only at hfit1 hfit2
  have hz := zero_num
  have hsz := nC_size false (fun _ => 0)
  have hset := nC_neg false (fun _ => 0) ng
  have hset2 := nC_negL false (fun _ => 0) ng
  have hb1 := heap_alloc_new w (.cells #[.bool ng, .int .u64 (hi : Int), .int .u64 (lo : Int)] 30)
  have hb2 := heap_alloc_new (w.alloc (.cells #[.bool ng, .int .u64 (hi : Int), .int .u64 (lo : Int)] 30)) (.cells (nC false fun _ => 0) 183)
  have hb3 := heap_alloc_new ((w.alloc (.cells #[.bool ng, .int .u64 (hi : Int), .int .u64 (lo : Int)] 30)).alloc (.cells (nC false fun _ => 0) 183)) (.cells (nC false fun _ => 0) 183)
  have hk0 := (((Keep.refl (fun _ => False) w).alloc (.cells #[.bool ng, .int .u64 (hi : Int), .int .u64 (lo : Int)] 30)).alloc (.cells (nC false fun _ => 0) 183)).alloc (.cells (nC false fun _ => 0) 183)
  have hb1' := (((Keep.refl (fun _ => False) (w.alloc (.cells #[.bool ng, .int .u64 (hi : Int), .int .u64 (lo : Int)] 30))).alloc (.cells (nC false fun _ => 0) 183)).alloc (.cells (nC false fun _ => 0) 183)).get hb1 id
  have hb2' := ((Keep.refl (fun _ => False) ((w.alloc (.cells #[.bool ng, .int .u64 (hi : Int), .int .u64 (lo : Int)] 30)).alloc (.cells (nC false fun _ => 0) 183))).alloc (.cells (nC false fun _ => 0) 183)).get hb2 id
  have e1 : (w.alloc (.cells #[.bool ng, .int .u64 (hi : Int), .int .u64 (lo : Int)] 30)).heap.size = w.heap.size + 1 := by simp
  have e2 : ((w.alloc (.cells #[.bool ng, .int .u64 (hi : Int), .int .u64 (lo : Int)] 30)).alloc (.cells (nC false fun _ => 0) 183)).heap.size = w.heap.size + 1 + 1 := by simp
  rw [e1] at hb2'
  rw [e2] at hb3
  obtain ⟨w2, hst, hN, hks⟩ := num_store (b := false) (D := fun _ => 0) hb3 ng (fun _ => 0)
  have HBX := hid (hks.get hb1' (by omega))
  have HR := hid (hks.get hb2' (by omega))
  have HN := hid hN
  have HK := hid (hk0.trans' hks (fun i hi e => by omega))
  clear hb1 hb2 hb3 hk0 hb1' hb2' e1 e2 hks hN hx
  go_enter Tryz.func136, Tryz.ntmps136
  go_upto_region 2 with fail
  generalize hsb : w.heap.size = sb at *
  have d1 : w2.cell? ⟨sb, 1, none⟩ = some (.int .u64 (hi : Int)) := cell_of HBX.out (by rfl)
  have d2 : w2.cell? ⟨sb, 2, none⟩ = some (.int .u64 (lo : Int)) := cell_of HBX.out (by rfl)
  clear hst hz hsz hset hset2
  go_wp2_with fail
  clear d1 d2
  go_loopw [4, 5, 6] (fun h l i wr => ∃ k : Nat, k ≤ 8 ∧ i = iV k ∧ h = .int .u64 ((hi / 256 ^ k : Nat) : Int) ∧ l = .int .u64 ((lo / 256 ^ k : Nat) : Int) ∧ NI ng (dgK hi lo k) wr (sb + 1 + 1) ∧ Keep (fun q => q = sb + 1 + 1) w2 wr) (fun _ _ i _ => 9 - (intOf i).toNat)
  case atStart => exact ⟨0, by omega, rfl, by simp, by simp, by
    have : dgK hi lo 0 = fun _ => 0 := by funext j; unfold dgK; rw [if_neg (by omega), if_neg (by omega)]
    rw [this]; exact HN.out, Keep.refl _ _⟩
  case round =>
    clear HN
    obtain ⟨k, hk, rfl, rfl, rfl, hN, hks⟩ := hrel
    have HN := hid hN; have HKS := hid hks
    clear hN hks
    by_cases hlt : k < 8
    · have HNX := hid (dgK_next hi lo k hlt)
      have hl : lo / 256 ^ k ≤ lo := Nat.div_le_self _ _
      have hh : hi / 256 ^ k ≤ hi := Nat.div_le_self _ _
      have HL1 : Hid (lo / 256 ^ (k + 1) = lo / 256 ^ k / 256) := hid (by rw [Nat.pow_succ, Nat.div_div_eq_div_mul])
      have HH1 : Hid (hi / 256 ^ (k + 1) = hi / 256 ^ k / 256) := hid (by rw [Nat.pow_succ, Nat.div_div_eq_div_mul])
      generalize lo / 256 ^ k = l at *
      generalize hi / 256 ^ k = h at *
      have m1 : (l : Int).tmod 256 = ((l % 256 : Nat) : Int) := by rw [Int.tmod_eq_emod_of_nonneg (by omega)]; omega
      have m2 : (l : Int).tdiv 256 = ((l / 256 : Nat) : Int) := by rw [Int.tdiv_eq_ediv_of_nonneg (by omega)]; omega
      have m3 : (h : Int).tmod 256 = ((h % 256 : Nat) : Int) := by rw [Int.tmod_eq_emod_of_nonneg (by omega)]; omega
      have m4 : (h : Int).tdiv 256 = ((h / 256 : Nat) : Int) := by rw [Int.tdiv_eq_ediv_of_nonneg (by omega)]; omega
      have b1 : l % 256 < 256 := Nat.mod_lt _ (by decide)
      have b3 : h % 256 < 256 := Nat.mod_lt _ (by decide)
      generalize l % 256 = lm at *
      generalize h % 256 = hm at *
      have hin : (0 : Int) ≤ (k : Int) ∧ (k : Int) < 40 := ⟨by omega, by omega⟩
      have hin2 : (0 : Int) ≤ 8 + (k : Int) ∧ 8 + (k : Int) < 40 := ⟨by omega, by omega⟩
      have c1 := HN.out.dig k (by omega)
      have f1 := HN.out.free (1 + k)
      have hN2 := HN.out.set k lm (by omega)
      have c2 := hN2.dig (8 + k) (by omega)
      have f2 := hN2.free (1 + (8 + k))
      have HN3 := hid (hN2.set (8 + k) hm (by omega))
      rw [HNX.out] at HN3
      have W1 : Hid (IntKind.u64.wrap ((h : Int) / 256) = ((h / 256 : Nat) : Int)) := hid (by simp [IntKind.wrap, IntKind.bits, IntKind.signed]; omega)
      have W2 : Hid (IntKind.u64.wrap ((l : Int) / 256) = ((l / 256 : Nat) : Int)) := hid (by simp [IntKind.wrap, IntKind.bits, IntKind.signed]; omega)
      clear hN2 hl hh
      generalize dgK hi lo k = D at *
      go_wp2
      go_roundw
      case rel => exact ⟨k + 1, by omega, by go_num, by rw [HH1.out, W1.out], by rw [HL1.out, W2.out], HN3.out, (HKS.out.setCell (p := ⟨sb + 1 + 1, 1 + k, none⟩) rfl _).setCell (p := ⟨sb + 1 + 1, 1 + (8 + k), none⟩) rfl _⟩
      case measure => simp [intOf]; omega
    · obtain rfl : k = 8 := by omega
      have hR2 : NI false (fun _ => 0) wr (sb + 1) := HKS.out.get HR.out (by omega)
      obtain ⟨w3, hst, hN3, hk3⟩ := num_store hR2 ng (dgK hi lo 8)
      have hload := hN3.load
      have HE := hid (nC_ext ng (dgK hi lo 8) (b' := ng) (D' := dgN (hi * 18446744073709551616 + lo)) rfl (fun i _ => dgK_end hi lo hfit1 hfit2 i))
      have HKF := hid ((HK.out.trans' HKS.out (fun i hi e => by omega)).trans' hk3 (fun i hi e => by omega))
      clear hk3 hN3 hR2
      go_wp2_with (refine wpList_load_row rfl 183 _ rfl _ rfl _ _ _ _ HN.out Tryz.underlying183 rfl (by rw [info_num, nC_size]) ?_)
      (try simp only [Exit.inBlock, Exit.then])
      refine bodyPost_ret (results_c rfl _ rfl hload) rfl ?_
      exact ⟨by rw [HE.out]; rfl, HKF.out⟩
end Go.Proofs.YtddleckbbinllaaGreatDoor

namespace Go.Proofs.YtddleckbbinllaaGreatDoor
open Go.RowKit Go.Proofs.Heap Go.Proofs.Wide

theorem dg_split (m k : Nat) : m / 256 ^ k = 256 * (m / 256 ^ (k + 1)) + dgN m k := by
  unfold dgN
  rw [Nat.pow_succ, ← Nat.div_div_eq_div_mul]
  exact (Nat.div_add_mod _ _).symm
theorem dg_lt (m k : Nat) : dgN m k < 256 := Nat.mod_lt _ (by decide)
theorem dg_eq {m m' k : Nat} (h : m / 256 ^ (k + 1) = m' / 256 ^ (k + 1)) (hd : dgN m k = dgN m' k) : m / 256 ^ k = m' / 256 ^ k := by rw [dg_split m, dg_split m', h, hd]
theorem dg_less {m m' k : Nat} (h : m / 256 ^ (k + 1) = m' / 256 ^ (k + 1)) (hd : dgN m k < dgN m' k) : m < m' := by
  have h1 := dg_split m k
  have h2 := dg_split m' k
  refine Nat.lt_of_not_le fun hle => ?_
  have := Nat.div_le_div_right (c := 256 ^ k) hle
  omega
theorem cmpN_gt {a b : Nat} (h : b < a) : cmpN a b = 1 := by unfold cmpN; rw [if_pos h]
theorem cmpN_lt {a b : Nat} (h : a < b) : cmpN a b = -1 := by unfold cmpN; rw [if_neg (by omega), if_neg (by omega)]
theorem cmpN_eq {a b : Nat} (h : a = b) : cmpN a b = 0 := by unfold cmpN; rw [if_neg (by omega), if_pos h]

set_option maxRecDepth 20000 in
set_option maxHeartbeats 4000000 in
theorem r_size (a b : Bool) (m n : Nat) (hm : m < 256 ^ 40) (hn : n < 256 ^ 40) (w : World) : Calls Tryz.prog 145 #[.agg (nC a (dgN m)), .agg (nC b (dgN n))] w fun r w' => r = .returned (.int .i64 (cmpN m n)) ∧ Keep (fun _ => False) w w' := by
  have hb1 := heap_alloc_new w (.cells (nC a (dgN m)) 183)
  have hb2 := heap_alloc_new (w.alloc (.cells (nC a (dgN m)) 183)) (.cells (nC b (dgN n)) 183)
  have e1 : (w.alloc (.cells (nC a (dgN m)) 183)).heap.size = w.heap.size + 1 := by simp
  have hb1' := ((Keep.refl (fun _ => False) (w.alloc (.cells (nC a (dgN m)) 183))).alloc (.cells (nC b (dgN n)) 183)).get hb1 id
  rw [e1] at hb2
  have hk := ((Keep.refl (fun _ => False) w).alloc (.cells (nC a (dgN m)) 183)).alloc (.cells (nC b (dgN n)) 183)
  have HA : Hid (NI a (dgN m) _ _) := hid hb1'
  have HB : Hid (NI b (dgN n) _ _) := hid hb2
  have HK := hid hk
  have H40 : Hid (m / 256 ^ 40 = n / 256 ^ 40) := hid (by rw [Nat.div_eq_of_lt hm, Nat.div_eq_of_lt hn])
  clear hb1 hb2 hb1' hk e1 hm hn
  go_enter Tryz.func145, Tryz.ntmps145
  go_upto_region 1 with fail
  generalize (w.alloc (.cells (nC a (dgN m)) 183)).alloc (.cells (nC b (dgN n)) 183) = w1 at *
  generalize w.heap.size = sb at *
  go_wp2_with fail
  go_loopw [5] (fun i wr => ∃ k : Nat, k ≤ 40 ∧ i = .int .i64 ((k : Int) - 1) ∧ m / 256 ^ k = n / 256 ^ k ∧ Keep (fun _ => False) w1 wr) (fun i _ => (intOf i + 1).toNat)
  case atStart => exact ⟨40, Nat.le_refl _, by rfl, H40.out, Keep.refl _ _⟩
  case round =>
    clear H40
    obtain ⟨k, hk, rfl, heq, hkr⟩ := hrel
    have HEQ := hid heq; have HKR := hid hkr
    clear heq hkr
    cases k with
    | succ k =>
      have hme : ((k + 1 : Nat) : Int) - 1 = (k : Int) := by omega
      rw [hme]
      have g1 : decide ((0 : Int) ≤ (k : Int)) = true := decide_eq_true (by omega)
      have hin : (0 : Int) ≤ (k : Int) ∧ (k : Int) < 40 := ⟨by omega, by omega⟩
      have c1 := (HA.out.keep HKR.out.drew id).dig k (by omega)
      have c2 := (HB.out.keep HKR.out.drew id).dig k (by omega)
      have d1 := (HA.out.keep HKR.out.drew.drew id).dig k (by omega)
      have d2 := (HB.out.keep HKR.out.drew.drew id).dig k (by omega)
      have HLT := hid (fun h => dg_less HEQ.out h : dgN m k < dgN n k → m < n)
      have HGT := hid (fun h => dg_less HEQ.out.symm h : dgN n k < dgN m k → n < m)
      have HEE := hid (fun h => dg_eq HEQ.out h : dgN m k = dgN n k → m / 256 ^ k = n / 256 ^ k)
      generalize dgN m k = x at *
      generalize dgN n k = y at *
      by_cases hgt : y < x
      · have g2 : decide ((y : Int) < (x : Int)) = true := decide_eq_true (by omega)
        have g3 : decide (y < x) = true := decide_eq_true hgt
        have G := hid (cmpN_gt (HGT.out hgt))
        go_wp2_with fail
        refine Plan.wp_region_pl [(false, 0, []), (false, 1, []), (false, 2, []), (false, 3, []), (false, 4, []), (false, 5, []), (false, 6, []), (false, 7, []), (false, 8, [])] (by kernel_rfl) (by kernel_rfl) ?_
        iterate 9 (refine Plan.pl_st rfl ?_; go_big_quiet_step (fail); refine wpQuiet_nil ?_)
        refine Plan.pl_end ?_
        go_wp2
        go_ret
        exact ⟨by rw [G.out]; rfl, HK.out.trans HKR.out.drew⟩
      have g2 : decide ((y : Int) < (x : Int)) = false := decide_eq_false (by omega)
      have g3 : decide (y < x) = false := decide_eq_false hgt
      by_cases hlt : x < y
      · have g4 : decide ((x : Int) < (y : Int)) = true := decide_eq_true (by omega)
        have g5 : decide (x < y) = true := decide_eq_true hlt
        have G := hid (cmpN_lt (HLT.out hlt))
        go_wp2_with fail
        refine Plan.wp_region_pl [(false, 0, []), (false, 1, []), (false, 2, []), (false, 3, []), (false, 4, []), (false, 5, []), (false, 6, []), (false, 7, []), (false, 8, [])] (by kernel_rfl) (by kernel_rfl) ?_
        iterate 9 (refine Plan.pl_st rfl ?_; go_big_quiet_step (fail); refine wpQuiet_nil ?_)
        refine Plan.pl_end ?_
        go_wp2_with fail
        refine Plan.wp_region_pl [(false, 0, []), (false, 1, []), (false, 2, []), (false, 3, []), (false, 4, []), (false, 5, []), (false, 6, []), (false, 7, []), (false, 8, [])] (by kernel_rfl) (by kernel_rfl) ?_
        iterate 9 (refine Plan.pl_st rfl ?_; go_big_quiet_step (fail); refine wpQuiet_nil ?_)
        refine Plan.pl_end ?_
        go_wp2
        go_ret
        exact ⟨by rw [G.out]; rfl, HK.out.trans HKR.out.drew.drew⟩
      have g4 : decide ((x : Int) < (y : Int)) = false := decide_eq_false (by omega)
      have g5 : decide (x < y) = false := decide_eq_false hlt
      have G := hid (HEE.out (by omega))
      go_wp2_with fail
      refine Plan.wp_region_pl [(false, 0, []), (false, 1, []), (false, 2, []), (false, 3, []), (false, 4, []), (false, 5, []), (false, 6, []), (false, 7, []), (false, 8, [])] (by kernel_rfl) (by kernel_rfl) ?_
      iterate 9 (refine Plan.pl_st rfl ?_; go_big_quiet_step (fail); refine wpQuiet_nil ?_)
      refine Plan.pl_end ?_
      go_wp2_with fail
      refine Plan.wp_region_pl [(false, 0, []), (false, 1, []), (false, 2, []), (false, 3, []), (false, 4, []), (false, 5, []), (false, 6, []), (false, 7, []), (false, 8, [])] (by kernel_rfl) (by kernel_rfl) ?_
      iterate 9 (refine Plan.pl_st rfl ?_; go_big_quiet_step (fail); refine wpQuiet_nil ?_)
      refine Plan.pl_end ?_
      go_wp2
      go_roundw
      case rel => exact ⟨k, by omega, by first | rfl | go_num, G.out, HKR.out.drew.drew⟩
      case measure => simp [intOf]
    | zero =>
      have G := hid (cmpN_eq (a := m) (b := n) (by have := HEQ.out; simpa using this))
      go_wp2
      go_ret
      exact ⟨by rw [G.out]; rfl, HK.out.trans HKR.out⟩

set_option maxRecDepth 20000 in
set_option maxHeartbeats 2000000 in
theorem r_good (x : WI) (hx : x.fit) (w : World) : Calls Tryz.prog 45 #[WV x] w fun r w' => r = .returned (.bool x.form) ∧ Keep (fun _ => False) w w' := by
  obtain ⟨ng, hi, lo⟩ := x
  have hf1 := hx.1
  have hf2 := hx.2
  simp only at hf1 hf2
  have HK := hid ((Keep.refl (fun _ => False) w).alloc (.cells #[.bool ng, .int .u64 (hi : Int), .int .u64 (lo : Int)] 30))
  have hform : WI.form ⟨ng, hi, lo⟩ = (decide (hi < 9223372036854775808) && (!ng || decide (hi * 18446744073709551616 + lo ≠ 0))) := rfl
  rw [hform]
  clear hform hx
  go_enter Tryz.func45, Tryz.ntmps45
  by_cases h1 : hi < 9223372036854775808
  · have g1 : decide ((hi : Int) < 9223372036854775808) = true := decide_eq_true (by omega)
    have g1' : decide (hi < 9223372036854775808) = true := decide_eq_true h1
    rw [g1']
    cases ng
    · go_wp2
      go_ret
      exact ⟨rfl, HK.out⟩
    · by_cases h2 : hi = 0
      · by_cases h3 : lo = 0
        · subst h2; subst h3
          go_wp2
          go_ret
          exact ⟨rfl, HK.out⟩
        · subst h2
          have g3 : ((lo : Int) == 0) = false := beq_eq_false_iff_ne.2 (by omega)
          have g4 : (lo == 0) = false := beq_eq_false_iff_ne.2 h3
          have G : Hid (decide (0 * 18446744073709551616 + lo ≠ 0) = true) := hid (decide_eq_true (by omega))
          go_wp2
          go_ret
          exact ⟨by rw [G.out]; rfl, HK.out⟩
      · have g3 : ((hi : Int) == 0) = false := beq_eq_false_iff_ne.2 (by omega)
        have g4 : (hi == 0) = false := beq_eq_false_iff_ne.2 h2
        have G : Hid (decide (hi * 18446744073709551616 + lo ≠ 0) = true) := hid (decide_eq_true (by omega))
        go_wp2
        go_ret
        exact ⟨by rw [G.out]; rfl, HK.out⟩
  · have g1 : decide ((hi : Int) < 9223372036854775808) = false := decide_eq_false (by omega)
    have g1' : decide (hi < 9223372036854775808) = false := decide_eq_false h1
    rw [g1']
    go_wp2
    go_ret
    exact ⟨rfl, HK.out⟩
end Go.Proofs.YtddleckbbinllaaGreatDoor
