/- What is proved: the sample of the formulas' laws: its answers are the document's. -/
import Derived.Test.YtjebgidddfamlaaDoorMExDecLaw
import Derived.Test.YtjebgidddfamlaaDoorMExEval
import Derived.Test.YtjebgidddfamlaaDoorMExShow
import Derived.Test.YtjebgidddfamlaaDoorMExpr2
namespace Go.Proofs.YtjebgidddfamlaaDoor
open Go.RowKit Go.Proofs.Heap Go.Proofs.Sch Go.Proofs.Wide

section
variable {P : Program} {ops : Array Oper}
theorem quiet_eql_g {Q : Act → Prop} {rest : List Oper} {a : Act} {o : Oper} {w : World} (hgd : Region.wanted o (yielded ops a.tmps) = true) (t u : TypeId) (x y : Operand) (xs ys : Array Value) (b : Bool) (ho : o.op = .binOp .eql t x y u) (hx : a.eval x = .agg xs) (hy : a.eval y = .agg ys)
    (hm : P.eqGuardType P.depth t = false) (hl : (binOp .eql t (.agg xs) (.agg ys)).run P w = .ok (.bool b) w) (h : wpQuiet P ops (fun w' => w' = w) Q rest (a.put o.dst (.bool b))) : wpQuiet P ops (fun w' => w' = w) Q (o :: rest) a := by
  refine BigFrame.wpQuiet_want hgd fun K hK => ⟨.bool b, fun w' hw' => ?_, hK _ h⟩
  subst hw'
  have hg := fun (o1 o2 : Operand) => run_eqGuard_agg (P := P) (w := w') .eql t o1 o2 xs ys hm
  unfold Oper.quietAt execOp
  simp [ho, hx, hy, hl, hg]
  exact ⟨rfl, rfl⟩
end
theorem smp_eqH (w : World) : (binOp .eql 36 (.agg #[.int .i64 3, .int .i64 3, .int .i64 0, .bool false, .int .u64 0, .int .u64 0]) (.agg #[.int .i64 3, .int .i64 3, .int .i64 0, .bool false, .int .u64 0, .int .u64 0])).run Tryd.prog w = .ok (.bool true) w := by kernel_rfl
theorem smp_eqI (w : World) : (binOp .eql 34 (.agg #[.bool false, .int .u64 0, .int .u64 42]) (.agg #[.bool false, .int .u64 0, .int .u64 42])).run Tryd.prog w = .ok (.bool true) w := by kernel_rfl
abbrev smpC : List Ins := [⟨2, 0, 0, zW⟩, ⟨1, 0, 0, ⟨false, 0, 2⟩⟩, ⟨7, 0, 0, zW⟩]
abbrev smpN : List Ins := [⟨1, 0, 0, zW⟩, ⟨1, 0, 0, zW⟩, ⟨17, 0, 0, zW⟩]
abbrev smpH : List Ins := [⟨3, 3, 0, zW⟩]
theorem smp_eval : evalW [[⟨false, 0, 21⟩]] 0 smpC = (⟨false, 0, 42⟩, 0) := by decide +kernel
theorem smp_range : evalW [] 0 smpC = (zW, 3) := by decide +kernel
theorem smp_need : evalW [] 0 smpN = (zW, 9) := by decide +kernel
theorem smp_fitC : ∀ x ∈ smpC, x.k.fit := by
  intro x hx
  simp only [smpC, List.mem_cons, List.not_mem_nil, or_false] at hx
  rcases hx with rfl | rfl | rfl
  · exact zW_fit
  · exact ⟨by decide, by decide⟩
  · exact zW_fit
theorem smp_fitN : ∀ x ∈ smpN, x.k.fit := by
  intro x hx
  simp only [smpN, List.mem_cons, List.not_mem_nil, or_false] at hx
  rcases hx with rfl | rfl | rfl <;> exact zW_fit
theorem smp_fitH : ∀ x ∈ smpH, x.k.fit := by
  intro x hx; obtain rfl := List.mem_singleton.1 hx; exact zW_fit
theorem smp_encC : encC smpH = 0 := by
  refine encC_of (by decide +kernel) ?_
  decide +kernel
theorem smp_enc : expS smpH = ⟨#[1, 3, 3]⟩ := by
  unfold expS
  rw [if_pos smp_encC]
  decide +kernel
theorem smp_dec : decX ⟨#[1, 3, 3]⟩ = smpH ∧ decEX ⟨#[1, 3, 3]⟩ = 0 := by
  have h := decX_enc smp_encC (smp_fitH)
  rw [smp_enc] at h
  exact h
theorem smp_it0 : itB 0 = ⟨#[48]⟩ := by unfold itB Lib.itoa; rw [if_neg (by decide)]; rw [show (0 : Int).toNat = 0 from rfl, Lib.decDigits_one (by decide)]; rfl
theorem smp_t2 : textW ⟨false, 0, 2⟩ = ⟨#[50]⟩ := by
  have hd : Lib.decDigits (WI.mag ⟨false, 0, 2⟩) = [50] := by
    rw [show WI.mag ⟨false, 0, 2⟩ = 2 by decide, Lib.decDigits_one (by decide)]; rfl
  unfold textW
  rw [if_pos (by decide)]
  simp only [hd]
  rfl
theorem smp_show : showX smpC = ⟨#[109, 117, 108, 40, 102, 48, 46, 48, 44, 50, 41]⟩ := by
  have e1 : leafT ⟨2, 0, 0, zW⟩ = ⟨#[102, 48, 46, 48]⟩ := by
    show (⟨#[102]⟩ ++ itB 0 ++ ⟨#[46]⟩ ++ itB 0 : ByteArray) = _
    rw [smp_it0]; decide +kernel
  have e2 : leafT ⟨1, 0, 0, ⟨false, 0, 2⟩⟩ = ⟨#[50]⟩ := smp_t2
  have e3 : showRun [] smpC = [insT ⟨7, 0, 0, zW⟩ [leafT ⟨2, 0, 0, zW⟩, leafT ⟨1, 0, 0, ⟨false, 0, 2⟩⟩]] := rfl
  unfold showX
  rw [if_pos (by decide +kernel), e3, e1, e2]
  decide +kernel
theorem smp_uses : usesL smpC = [⟨2, 0, 0, zW⟩] := by rfl
theorem ip3 {w : World} {g : Nat} {x y z : Ins} (h : w.heap[g]? = some (.cells ((icl x ++ icl y ++ icl z).toArray) 36 (0, 0))) : IP w w.heap.size (some ⟨g, 0, none⟩) [x, y, z] := by
  refine .inr ⟨g, 0, rfl, lt_of_heap h, fun i u hx => ?_⟩
  match i, hx with
  | 0, hx => injection hx with hx; subst hx; exact ⟨cell_of h rfl, cell_of h rfl, cell_of h rfl, cell_of h rfl, cell_of h rfl, cell_of h rfl⟩
  | 1, hx => injection hx with hx; subst hx; exact ⟨cell_of h rfl, cell_of h rfl, cell_of h rfl, cell_of h rfl, cell_of h rfl, cell_of h rfl⟩
  | 2, hx => injection hx with hx; subst hx; exact ⟨cell_of h rfl, cell_of h rfl, cell_of h rfl, cell_of h rfl, cell_of h rfl, cell_of h rfl⟩
  | j + 3, hx => simp at hx
theorem ip1 {w : World} {g : Nat} {x : Ins} (h : w.heap[g]? = some (.cells ((icl x).toArray) 36 (0, 0))) : IP w w.heap.size (some ⟨g, 0, none⟩) [x] := by
  refine .inr ⟨g, 0, rfl, lt_of_heap h, fun i u hx => ?_⟩
  match i, hx with
  | 0, hx => injection hx with hx; subst hx; exact ⟨cell_of h rfl, cell_of h rfl, cell_of h rfl, cell_of h rfl, cell_of h rfl, cell_of h rfl⟩
  | j + 1, hx => simp at hx
theorem yp_one {w : World} {g h c : Nat} {x : WI} (hh : w.heap[h]? = some (.cells #[.slice (some ⟨g, 0, none⟩) 1 c] 43 (0, 0))) (hc : 1 ≤ c) (hg : w.heap[g]? = some (.cells (WC x) 34 (0, 0))) : YP w w.heap.size (some ⟨h, 0, none⟩) [[x]] := by
  refine .inr ⟨h, 0, rfl, lt_of_heap hh, fun i u hx => ?_⟩
  match i, hx with
  | 0, hx =>
    injection hx with hx; subst hx
    refine ⟨some ⟨g, 0, none⟩, c, cell_of hh rfl, hc, .inr ⟨g, 0, rfl, lt_of_heap hg, fun j v hv => ?_⟩⟩
    match j, hv with
    | 0, hv => injection hv with hv; subst hv; exact ⟨cell_of hg rfl, cell_of hg rfl, cell_of hg rfl⟩
    | j + 1, hv => simp at hv
  | j + 1, hx => simp at hx

set_option maxRecDepth 20000 in
set_option maxHeartbeats 16000000 in
theorem ex_awake (w : World) : Calls Tryd.prog 6 #[] w fun r w' => r = .returned (.bool true) ∧ Keep (fun _ => False) w w' := by
  go_enter Tryd.func6, Tryd.ntmps6
  go_wp2_with fail
  refine (w_of 2 (by omega) _).mono ?_
  rintro r w1 ⟨rfl, hk⟩
  have HK1 := hid hk
  clear hk
  obtain ⟨w2, hw2, hb2, hs2, hk2⟩ := box1 w1 #[.int .i64 2, .int .i64 0, .int .i64 0, .bool false, .int .u64 0, .int .u64 0, .int .i64 1, .int .i64 0, .int .i64 0, .bool false, .int .u64 0, .int .u64 2, .int .i64 7, .int .i64 0, .int .i64 0, .bool false, .int .u64 0, .int .u64 0] 36
  have HC2 : Hid (w2.heap[w1.heap.size]? = some (.cells ((icl ⟨2, 0, 0, zW⟩ ++ icl ⟨1, 0, 0, ⟨false, 0, 2⟩⟩ ++ icl ⟨7, 0, 0, zW⟩).toArray) 36 (0, 0))) := hid hb2
  have HK2 := hid (HK1.out.trans hk2)
  clear hb2 hs2 hk2
  go_upto_region 2 with fail
  rw [← hw2]
  clear hw2
  generalize w1.heap.size = cb at *
  go_wp2_with fail
  refine (w_of 21 (by omega) _).mono ?_
  rintro r w3 ⟨rfl, hk⟩
  have HK3 := hid (HK2.out.trans hk)
  have HC3 := hid (hk.get HC2.out id)
  clear hk
  obtain ⟨w4, hw4, hb4, hb5, hs4, hk4⟩ := box2 w3 #[.bool false, .int .u64 0, .int .u64 21] #[.slice (some ⟨w3.heap.size, 0, none⟩) 1 1] 34 43
  have HY4 : Hid (YP w4 w4.heap.size (some ⟨w3.heap.size + 1, 0, none⟩) [[⟨false, 0, 21⟩]]) := hid (yp_one hb5 (Nat.le_refl _) hb4)
  have HK4 := hid (HK3.out.trans hk4)
  have HC4 := hid (hk4.get HC3.out id)
  clear hb4 hb5 hs4 hk4
  have HEV := hid (expr_eval smpC (some ⟨cb, 0, none⟩) 3 [[⟨false, 0, 21⟩]] (some ⟨w3.heap.size + 1, 0, none⟩) 1 0 w4 smp_fitC (by intro l hl; obtain rfl := List.mem_singleton.1 hl; intro x hx; obtain rfl := List.mem_singleton.1 hx; exact ⟨by decide, by decide⟩) (by omega) (ip3 HC4.out) HY4.out)
  rw [smp_eval] at HEV
  go_wp2_with fail
  rw [← hw4]
  refine HEV.out.mono ?_
  rintro r w5 ⟨rfl, hk⟩
  have HK5 := hid (HK4.out.trans hk)
  have HC5 := hid (hk.get HC4.out id)
  clear hk hw4 HEV
  obtain ⟨w6, hw6, hb6, hs6, hk6⟩ := box1 w5 #[.bool false, .int .u64 0, .int .u64 42] 34
  have HX6 := hid hb6
  have HK6 := hid (HK5.out.trans hk6)
  have HC6 := hid (hk6.get HC5.out id)
  clear hb6 hs6 hk6
  go_upto_region 3 with fail
  rw [← hw6]
  clear hw6
  generalize w5.heap.size = xb at *
  have HEV := hid (expr_eval smpC (some ⟨cb, 0, none⟩) 3 [] none 0 0 w6 smp_fitC (by intro l hl; simp at hl) (by omega) (ip3 HC6.out) (.inl rfl))
  rw [smp_range] at HEV
  go_wp2_with fail
  refine HEV.out.mono ?_
  rintro r w7 ⟨rfl, hk⟩
  have HK7 := hid (HK6.out.trans hk)
  have HC7 := hid (hk.get HC6.out id); have HX7 := hid (hk.get HX6.out id)
  clear hk HEV
  obtain ⟨w8, hw8, hb8, hs8, hk8⟩ := box1 w7 #[.bool false, .int .u64 0, .int .u64 0] 34
  have HK8 := hid (HK7.out.trans hk8)
  have HC8 := hid (hk8.get HC7.out id); have HX8 := hid (hk8.get HX7.out id)
  clear hb8 hs8 hk8
  go_upto_region 4 with fail
  rw [← hw8]
  clear hw8
  generalize w7.heap.size = yb at *
  obtain ⟨w9, hw9, hb9, hs9, hk9⟩ := box1 w8 #[.int .i64 1, .int .i64 0, .int .i64 0, .bool false, .int .u64 0, .int .u64 0, .int .i64 1, .int .i64 0, .int .i64 0, .bool false, .int .u64 0, .int .u64 0, .int .i64 17, .int .i64 0, .int .i64 0, .bool false, .int .u64 0, .int .u64 0] 36
  have HN9 : Hid (w9.heap[w8.heap.size]? = some (.cells ((icl ⟨1, 0, 0, zW⟩ ++ icl ⟨1, 0, 0, zW⟩ ++ icl ⟨17, 0, 0, zW⟩).toArray) 36 (0, 0))) := hid hb9
  have HK9 := hid (HK8.out.trans hk9)
  have HC9 := hid (hk9.get HC8.out id); have HX9 := hid (hk9.get HX8.out id)
  clear hb9 hs9 hk9
  have HEV := hid (expr_eval smpN (some ⟨w8.heap.size, 0, none⟩) 3 [] none 0 0 w9 smp_fitN (by intro l hl; simp at hl) (by omega) (ip3 HN9.out) (.inl rfl))
  rw [smp_need] at HEV
  go_wp2_with fail
  rw [← hw9]
  clear hw9
  refine HEV.out.mono ?_
  rintro r w10 ⟨rfl, hk⟩
  have HK10 := hid (HK9.out.trans hk)
  have HC10 := hid (hk.get HC9.out id); have HX10 := hid (hk.get HX9.out id)
  clear hk HEV HN9
  generalize w8.heap.size = nb at *
  obtain ⟨w11, hw11, hb11, hs11, hk11⟩ := box1 w10 #[.bool false, .int .u64 0, .int .u64 0] 34
  have HK11 := hid (HK10.out.trans hk11)
  have HC11 := hid (hk11.get HC10.out id); have HX11 := hid (hk11.get HX10.out id)
  clear hb11 hs11 hk11
  go_upto_region 5 with fail
  rw [← hw11]
  clear hw11
  generalize w10.heap.size = zb at *
  obtain ⟨w12, hw12, hb12, hs12, hk12⟩ := box1 w11 #[.int .i64 3, .int .i64 3, .int .i64 0, .bool false, .int .u64 0, .int .u64 0] 36
  have HN12 : Hid (w12.heap[w11.heap.size]? = some (.cells ((icl ⟨3, 3, 0, zW⟩).toArray) 36 (0, 0))) := hid hb12
  have HK12 := hid (HK11.out.trans hk12)
  have HC12 := hid (hk12.get HC11.out id); have HX12 := hid (hk12.get HX11.out id)
  clear hb12 hs12 hk12
  have HEN := hid (expr_encodeX smpH (some ⟨w11.heap.size, 0, none⟩) 1 w12 smp_fitH (ip1 HN12.out))
  rw [smp_enc, smp_encC] at HEN
  go_wp2_with fail
  rw [← hw12]
  clear hw12
  refine HEN.out.mono ?_
  rintro r w13 ⟨rfl, hk⟩
  have HK13 := hid (HK12.out.trans hk)
  have HC13 := hid (hk.get HC12.out id); have HX13 := hid (hk.get HX12.out id)
  clear hk HEN HN12
  generalize w11.heap.size = hb at *
  have HDE := hid (ex_decode ⟨#[1, 3, 3]⟩ w13 (by decide))
  unfold DecI at HDE
  rw [smp_dec.1, smp_dec.2] at HDE
  go_wp2_with fail
  refine HDE.out.mono ?_
  rintro r w14 ⟨dp, dc, rfl, hown, hk⟩
  have HK14 := hid (HK13.out.trans hk)
  have HC14 := hid (hk.get HC13.out id); have HX14 := hid (hk.get HX13.out id)
  obtain ⟨db, rfl⟩ := owns_some hown (by decide)
  have HDP := hid (ip_own rfl hown)
  clear hk HDE hown
  go_upto_region 7 with fail
  have HK15 := hid HK14.out.drew; have HC15 : Hid (w14.drew.heap[cb]? = _) := hid HC14.out; have HX15 : Hid (w14.drew.heap[xb]? = _) := hid HX14.out
  have HD15 : Hid (IP w14.drew w14.drew.heap.size (some ⟨db, 0, none⟩) [⟨3, 3, 0, zW⟩]) := hid HDP.out
  refine Plan.wp_region_pl3 [(false, 0, []), (false, 1, []), (false, 2, []), (false, 3, []), (true, 4, [3]), (false, 5, []), (false, 6, []), (false, 7, []), (false, 8, []), (false, 9, []), (false, 10, []), (false, 11, []), (false, 12, []), (false, 13, []), (false, 14, []), (false, 15, []), (false, 16, []), (false, 17, []), (false, 18, []), (false, 19, []), (false, 20, []), (false, 21, []), (false, 22, []), (false, 23, []), (false, 24, []), (false, 25, []), (false, 26, []), (false, 27, []), (false, 28, []), (false, 29, []), (false, 30, []), (false, 31, []), (false, 32, []), (false, 33, []), (false, 34, []), (false, 35, []), (false, 36, []), (false, 37, []), (false, 38, []), (false, 39, []), (false, 40, []), (true, 41, []), (false, 42, []), (false, 43, []), (false, 44, []), (true, 45, []), (false, 46, []), (false, 47, []), (false, 48, []), (false, 49, []), (true, 50, []), (false, 51, []), (false, 52, []), (false, 53, []), (false, 54, [])] (by as_aux_lemma => kernel_rfl) (by as_aux_lemma => kernel_rfl) ?_
  clear HDP
  generalize w14.drew = w15 at *
  have x0 : w15.cell? ⟨xb, 0, none⟩ = some (.bool false) := cell_of HX15.out (by rfl)
  have x1 : w15.cell? ⟨xb, 1, none⟩ = some (.int .u64 0) := cell_of HX15.out (by rfl)
  have x2 : w15.cell? ⟨xb, 2, none⟩ = some (.int .u64 42) := cell_of HX15.out (by rfl)
  iterate 4 (refine Plan.pl_st rfl ?_; go_big_quiet_step (fail); refine wpQuiet_nil ?_)
  refine Plan.pl_ac rfl ?_
  go_wp2_with fail
  refine (w_of 42 (by omega) _).mono ?_
  rintro r w16 ⟨rfl, hk⟩
  have HK16 := hid (HK15.out.trans hk); have HC16 := hid (hk.get HC15.out id); have HX16 := hid (hk.get HX15.out id)
  have HD16 := hid (IP.low HD15.out (Low.keep0 hk))
  clear hk x0 x1 x2
  have x0 : w16.cell? ⟨xb, 0, none⟩ = some (.bool false) := cell_of HX16.out (by rfl)
  have x1 : w16.cell? ⟨xb, 1, none⟩ = some (.int .u64 0) := cell_of HX16.out (by rfl)
  have x2 : w16.cell? ⟨xb, 2, none⟩ = some (.int .u64 42) := cell_of HX16.out (by rfl)
  go_wp2
  refine Plan.plQ_mk ?_ ?_
  · iterate 1 (refine Plan.chk_st rfl ?_ ?_; focus (go_big_quiet_step (fail); exact wpQuiet_nil rfl))
    exact Plan.chk_end
  refine Plan.pl_st rfl ?_
  refine quiet_eql_g rfl _ _ _ _ _ _ _ rfl (by rfl) (by rfl) (by kernel_rfl) (smp_eqI _) ?_
  simp only [Act.put, List.setIfInBounds_toArray, List.set_cons_succ, List.set_cons_zero]
  refine wpQuiet_nil ?_
  clear x0 x1 x2
  iterate 29 (refine Plan.pl_st rfl ?_; go_big_quiet_step (fail); refine wpQuiet_nil ?_)
  obtain ⟨db2, do2, he, _, d0, d1, d2, d3, d4, d5⟩ := IP.at HD16.out (i := 0) rfl
  injection he with he; injection he with he1 he2 _; subst he1 he2
  simp only [Nat.zero_mul, Nat.add_zero, Nat.zero_add] at d0 d1 d2 d3 d4 d5
  iterate 2 (refine Plan.pl_st rfl ?_; go_big_quiet_step (fail); refine wpQuiet_nil ?_)
  clear d0 d1 d2 d3 d4 d5
  refine Plan.pl_st rfl ?_
  refine quiet_eql_g rfl _ _ _ _ _ _ _ rfl (by rfl) (by rfl) (by kernel_rfl) (smp_eqH _) ?_
  simp only [Act.put, List.setIfInBounds_toArray, List.set_cons_succ, List.set_cons_zero]
  refine wpQuiet_nil ?_
  iterate 3 (refine Plan.pl_st rfl ?_; go_big_quiet_step (fail); refine wpQuiet_nil ?_)
  have HSH := hid (expr_show smpC (some ⟨cb, 0, none⟩) 3 w16 smp_fitC (ip3 HC16.out))
  rw [smp_show] at HSH
  refine Plan.pl_ac rfl ?_
  go_wp2_with fail
  refine HSH.out.mono ?_
  rintro r w17 ⟨rfl, hk⟩
  have HK17 := hid (HK16.out.trans hk); have HC17 := hid (hk.get HC16.out id)
  clear hk HSH
  go_wp2
  refine Plan.plQ_mk Plan.chk_end ?_
  iterate 3 (refine Plan.pl_st rfl ?_; go_big_quiet_step (fail); refine wpQuiet_nil ?_)
  have HCH : Hid (Calls Tryd.prog 13 #[.slice none 0 0] w17 fun r w' => r = .returned (iV 4) ∧ Keep (fun _ => False) w17 w') := hid (expr_check [] none 0 w17 (by intro x hx; simp at hx) (.inl rfl))
  refine Plan.pl_ac rfl ?_
  go_wp2_with fail
  refine HCH.out.mono ?_
  rintro r w18 ⟨rfl, hk⟩
  have HK18 := hid (HK17.out.trans hk); have HC18 := hid (hk.get HC17.out id)
  clear hk HCH
  go_wp2
  refine Plan.plQ_mk Plan.chk_end ?_
  iterate 4 (refine Plan.pl_st rfl ?_; go_big_quiet_step (fail); refine wpQuiet_nil ?_)
  have HUS := hid (expr_uses smpC (some ⟨cb, 0, none⟩) 3 w18 (by decide) (ip3 HC18.out))
  rw [smp_uses] at HUS
  refine Plan.pl_ac rfl ?_
  go_wp2_with fail
  refine HUS.out.mono ?_
  rintro r w19 ⟨up, uc, rfl, _, hk⟩
  have HK19 := hid (HK18.out.trans hk)
  clear hk HUS
  go_wp2
  refine Plan.plQ_mk Plan.chk_end ?_
  iterate 4 (refine Plan.pl_st rfl ?_; go_big_quiet_step (fail); refine wpQuiet_nil ?_)
  refine Plan.pl_end ?_
  go_wp2
  go_ret
  exact ⟨rfl, HK19.out⟩
end Go.Proofs.YtjebgidddfamlaaDoor

namespace Go.Proofs.YtjebgidddfamlaaDoor
open Go.RowKit Go.Proofs.Heap Go.Proofs.Sch Go.Proofs.Wide

/-- More than is asked. -/
def greatX (code : List Ins) (fs : List (List WI)) : Bool := decide (80 < code.length) || (decide (12 < fs.length) || fs.any (fun l => decide (20 < l.length)))
theorem greatX_no {code : List Ins} {fs : List (List WI)} (h : greatX code fs = false) : code.length ≤ 80 ∧ fs.length ≤ 12 ∧ ∀ l ∈ fs, l.length ≤ 20 := by
  unfold greatX at h
  simp only [Bool.or_eq_false_iff, decide_eq_false_iff_not, List.any_eq_false, decide_eq_true_eq] at h
  exact ⟨by omega, by omega, fun t ht => by have := h.2.2 t ht; omega⟩

set_option maxRecDepth 20000 in
set_option maxHeartbeats 8000000 in
theorem ex_great (code : List Ins) (p : Option Addr) (c : Nat) (fs : List (List WI)) (q : Option Addr) (qc : Nat) (w : World) (hq : YP w w.heap.size q fs) :
    Calls Tryd.prog 7 #[.slice p code.length c, .slice q fs.length qc] w fun r w' => r = .returned (.bool (greatX code fs)) ∧ Keep (fun _ => False) w w' := by
  have HY := hid (fun (wy : World) (hk : Keep (fun _ => False) w wy) => YP.low hq (Low.keep0 hk))
  have HR : Hid (greatX code fs = (decide (80 < code.length) || (decide (12 < fs.length) || fs.any (fun l => decide (20 < l.length))))) := hid rfl
  generalize greatX code fs = R at *
  clear hq
  go_enter Tryd.func7, Tryd.ntmps7
  cases e1 : decide (80 < code.length)
  rotate_left
  · have G : Hid (R = true) := hid (by rw [HR.out, e1]; rfl)
    have e1' : decide ((80 : Int) < (code.length : Int)) = true := decide_eq_true (by have := of_decide_eq_true e1; omega)
    go_wp2
    go_ret
    exact ⟨by rw [G.out]; rfl, Keep.refl _ _⟩
  have e1' : decide ((80 : Int) < (code.length : Int)) = false := decide_eq_false (by have := of_decide_eq_false e1; omega)
  cases e2 : decide (12 < fs.length)
  rotate_left
  · have G : Hid (R = true) := hid (by rw [HR.out, e1, e2]; rfl)
    have e2' : decide ((12 : Int) < (fs.length : Int)) = true := decide_eq_true (by have := of_decide_eq_true e2; omega)
    go_wp2
    go_ret
    exact ⟨by rw [G.out]; rfl, Keep.refl _ _⟩
  have e2' : decide ((12 : Int) < (fs.length : Int)) = false := decide_eq_false (by have := of_decide_eq_false e2; omega)
  have HR2 : Hid (R = fs.any (fun l => decide (20 < l.length))) := hid (by rw [HR.out, e1, e2]; rfl)
  have hl : fs.length ≤ 12 := by have := of_decide_eq_false e2; omega
  go_wp2_with fail
  clear e1 e2 e1' e2' HR
  go_loopw [5] (fun i wr => ∃ k : Nat, k ≤ fs.length ∧ i = iV k ∧ (∀ j t, j < k → fs[j]? = some t → ¬ 20 < t.length) ∧ Keep (fun _ => False) w wr) (fun i _ => fs.length + 1 - (RowKit.intOf i).toNat)
  case atStart => exact ⟨0, Nat.zero_le _, rfl, fun j t hj => by omega, Keep.refl _ _⟩
  case round =>
    obtain ⟨k, hk, rfl, hal, hkr⟩ := hrel
    have HAL := hid hal; have HKR := hid hkr
    clear hal hkr
    by_cases hlt : k < fs.length
    · obtain ⟨t, ht⟩ : ∃ t, fs[k]? = some t := ⟨fs[k], by simp [hlt]⟩
      obtain ⟨b1, o1, tp, tc, rfl, hb1, x0, _⟩ := YP.at (HY.out wr HKR.out) ht
      have hin : (0 : Int) ≤ (k : Int) ∧ (k : Int) < (fs.length : Int) := ⟨by omega, by omega⟩
      by_cases hg : 20 < t.length
      · have G : Hid (R = true) := hid (by
          rw [HR2.out, List.any_eq_true]
          exact ⟨t, List.mem_of_getElem? ht, decide_eq_true hg⟩)
        have g1 : decide ((20 : Int) < (t.length : Int)) = true := decide_eq_true (by omega)
        have g2 : decide (20 < t.length) = true := decide_eq_true hg
        clear ht hg
        go_wp2
        go_ret
        exact ⟨by rw [G.out]; rfl, HKR.out⟩
      · have HN : Hid (∀ j t, j < k + 1 → fs[j]? = some t → ¬ 20 < t.length) := hid (fun j u hj hu => by
          rcases Nat.lt_or_ge j k with h | h
          · exact HAL.out j u h hu
          · obtain rfl : j = k := by omega
            rw [ht] at hu; injection hu with hu; subst hu; exact hg)
        have g1 : decide ((20 : Int) < (t.length : Int)) = false := decide_eq_false (by omega)
        have g2 : decide (20 < t.length) = false := decide_eq_false hg
        clear ht hg
        go_wp2
        go_roundw
        case rel => exact ⟨k + 1, by omega, by go_num, HN.out, HKR.out⟩
        case measure => simp [intOf]; omega
    · obtain rfl : k = fs.length := by omega
      have G : Hid (R = false) := hid (by
        rw [HR2.out, List.any_eq_false]
        intro t ht
        obtain ⟨j, hj⟩ := List.getElem?_of_mem ht
        have := HAL.out j t (List.getElem?_eq_some_iff.1 hj).1 hj
        simpa using this)
      go_wp2
      go_ret
      exact ⟨by rw [G.out]; rfl, HKR.out⟩
end Go.Proofs.YtjebgidddfamlaaDoor

namespace Go.Proofs.YtjebgidddfamlaaDoor
open Go.RowKit Go.Proofs.Heap Go.Proofs.Sch Go.Proofs.Wide

theorem flatz_len {α : Type} {z : Nat} {g : α → List Value} (hg : ∀ x, (g x).length = z) (l : List α) : (l.flatMap g).length = l.length * z := by
  induction l with
  | nil => simp
  | cons a l ih => rw [List.flatMap_cons, List.length_append, hg, ih, List.length_cons, Nat.succ_mul]; omega
/-- A row whose elements are known cell by cell, read whole. -/
theorem rd_rowz {α : Type} {z : Nat} {g : α → List Value} (hz : 0 < z) (hg : ∀ x, (g x).length = z) (h1 : ∀ x, ∀ u ∈ g x, u.oneCell' = true) {w : World} {b off c : Nat} {l : List α}
    (h : ∀ i x, l[i]? = some x → ∀ r u, (g x)[r]? = some u → w.cell? ⟨b, off + i * z + r, none⟩ = some u) : Rd w z (.slice (some ⟨b, off, none⟩) l.length c) l.length (l.flatMap g) := by
  refine ⟨flatz_len hg l, fun u hu => ?_, .inr ⟨_, _, rfl, fun j u hj => ?_⟩⟩
  · obtain ⟨x, _, hx⟩ := List.mem_flatMap.1 hu
    exact h1 x u hx
  · have hlt := (List.getElem?_eq_some_iff.1 hj).1
    rw [flatz_len hg] at hlt
    have hi : j / z < l.length := Nat.div_lt_of_lt_mul (by rw [Nat.mul_comm]; exact hlt)
    have hr : j % z < z := Nat.mod_lt _ hz
    have hd : j / z * z + j % z = j := by rw [Nat.mul_comm]; exact Nat.div_add_mod j z
    obtain ⟨x, hx⟩ : ∃ x, l[j / z]? = some x := ⟨l[j / z], by simp [hi]⟩
    have hu := flatz_at hg l (j / z) (j % z) x hx hr
    rw [hd, hj] at hu
    have := h (j / z) x hx (j % z) u hu.symm
    have hadd : (⟨b, off, none⟩ : Addr).add j = ⟨b, off + j, none⟩ := by unfold Addr.add; split <;> simp_all
    rw [hadd]
    rw [Nat.add_assoc, hd] at this
    exact this
theorem icl_oneX (x : Ins) : ∀ u ∈ icl x, u.oneCell' = true := by
  intro u hu; simp [icl] at hu; rcases hu with rfl | rfl | rfl | rfl | rfl | rfl <;> rfl
theorem wcl_oneX (x : WI) : ∀ u ∈ wcl x, u.oneCell' = true := by
  intro u hu; simp [wcl] at hu; rcases hu with rfl | rfl | rfl <;> rfl
theorem rd_noneX {w : World} {p : Option Addr} {c z : Nat} (hp : p = none → c = 0) : Rd w z (.slice p 0 c) 0 [] := by
  cases p with
  | none => obtain rfl := hp rfl; exact rd_nil w z
  | some a => exact ⟨by simp, by simp, .inr ⟨a, c, rfl, by simp⟩⟩
theorem rd_ip {w : World} {B : Nat} {p : Option Addr} {c : Nat} {l : List Ins} (h : IP w B p l) (hp : p = none → c = 0) : Rd w 6 (.slice p l.length c) l.length (l.flatMap icl) := by
  rcases h with rfl | ⟨b, off, rfl, hb, hc⟩
  · exact rd_noneX hp
  · refine rd_rowz (by omega) icl_len icl_oneX fun i x hx r u hu => ?_
    have h1 := hc i x hx
    match r, hu with
    | 0, hu => injection hu with hu; subst hu; exact h1.1
    | 1, hu => injection hu with hu; subst hu; exact h1.2.1
    | 2, hu => injection hu with hu; subst hu; exact h1.2.2.1
    | 3, hu => injection hu with hu; subst hu; exact h1.2.2.2.1
    | 4, hu => injection hu with hu; subst hu; exact h1.2.2.2.2.1
    | 5, hu => injection hu with hu; subst hu; exact h1.2.2.2.2.2
    | _ + 6, hu => simp [icl] at hu
theorem rd_xp {w : World} {B : Nat} {p : Option Addr} {c : Nat} {l : List WI} (h : XP w B p l) (hp : p = none → c = 0) : Rd w 3 (.slice p l.length c) l.length (l.flatMap wcl) := by
  rcases h with rfl | ⟨b, off, rfl, hb, hc⟩
  · exact rd_noneX hp
  · refine rd_rowz (by omega) wcl_len wcl_oneX fun i x hx r u hu => ?_
    have h1 := hc i x hx
    match r, hu with
    | 0, hu => injection hu with hu; subst hu; exact h1.1
    | 1, hu => injection hu with hu; subst hu; exact h1.2.1
    | 2, hu => injection hu with hu; subst hu; exact h1.2.2
    | _ + 3, hu => simp [wcl] at hu
end Go.Proofs.YtjebgidddfamlaaDoor

namespace Go.Proofs.YtjebgidddfamlaaDoor
open Go.RowKit Go.Proofs.Heap Go.Proofs.Sch Go.Proofs.Wide

def NumsAtN (B : Nat) (w : World) (b o : Nat) (x : List WI) : Prop := ∃ p k, w.cell? ⟨b, o, none⟩ = some (.slice p x.length k) ∧ x.length ≤ k ∧ XP w B p x ∧ (p = none → k = 0)
/-- A row of rows of numbers, none of which is nil with room. -/
def YPN (w : World) (B : Nat) (p : Option Addr) (l : List (List WI)) : Prop := RowP 1 (NumsAtN B) w B p l
theorem YPN.yp {w : World} {B : Nat} {p : Option Addr} {l : List (List WI)} (h : YPN w B p l) : YP w B p l :=
  RowP.imp h (Nat.le_refl _) fun b o x hb hx => by
    obtain ⟨q, k, h1, h2, h3, _⟩ := hx
    exact ⟨q, k, h1, h2, h3⟩
theorem YPN.low {w w' : World} {B : Nat} {p : Option Addr} {l : List (List WI)} (h : YPN w B p l) (hl : Low B w w') : YPN w' B p l :=
  RowP.imp h (Nat.le_refl _) fun b o x hb hx => by
    obtain ⟨q, k, h1, h2, h3, h4⟩ := hx
    exact ⟨q, k, by rw [hl.cell hb]; exact h1, h2, XP.low h3 hl, h4⟩
theorem YPN.at {w : World} {B : Nat} {p : Option Addr} {l : List (List WI)} (h : YPN w B p l) {i : Nat} {x : List WI} (hi : l[i]? = some x) : ∃ b off q k, p = some ⟨b, off, none⟩ ∧ b < B ∧ w.cell? ⟨b, off + i, none⟩ = some (.slice q x.length k) ∧ x.length ≤ k ∧ XP w B q x ∧ (q = none → k = 0) := by
  rcases h with rfl | ⟨b, off, hp, hb, hc⟩
  · simp at hi
  · obtain ⟨q, k, h1, h2, h3, h4⟩ := hc i x hi
    rw [Nat.mul_one] at h1
    exact ⟨b, off, q, k, hp, hb, h1, h2, h3, h4⟩

/-- A row of numbers, where it lies, its room. -/
abbrev Rw := List WI × Option Addr × Nat
def rV (r : Rw) : Value := .slice r.2.1 r.1.length r.2.2
structure RowsO (w : World) (B : Nat) (v : Value) (rs : List Rw) : Prop where
  own : w.ownsRow B 43 1 v rs.length (rs.map rV)
  each : ∀ r ∈ rs, w.ownsRow B 34 3 (rV r) r.1.length (r.1.flatMap wcl)
  apart : ∀ r ∈ rs, ∀ j, (rV r).ownBlock = some j → v.ownBlock ≠ some j
  diff : ∀ (i1 i2 : Nat) (r1 r2 : Rw), rs[i1]? = some r1 → rs[i2]? = some r2 → i1 ≠ i2 → ∀ j, (rV r1).ownBlock = some j → (rV r2).ownBlock ≠ some j
theorem RowsO.nil {w : World} {B g : Nat} (h : w.ownsRow B 43 1 (.slice (some ⟨g, 0, none⟩) 0 0) 0 []) : RowsO w B (.slice (some ⟨g, 0, none⟩) 0 0) [] :=
  ⟨h, fun r hr => by simp at hr, fun r hr => by simp at hr, fun i1 i2 r1 r2 h1 => by simp at h1⟩
theorem RowsO.low {w w' : World} {B : Nat} {v : Value} {rs : List Rw} (h : RowsO w B v rs) (hk : Keep (fun _ => False) w w') : RowsO w' B v rs :=
  ⟨owns_keep h.own (fun j hj => hk.block j (h.own.lt j hj).2 id), fun r hr => owns_keep (h.each r hr) (fun j hj => hk.block j ((h.each r hr).lt j hj).2 id), h.apart, h.diff⟩
/-- Rows that the call has made are rows of rows. -/
theorem RowsO.yp {w : World} {B : Nat} {p : Option Addr} {n c : Nat} {rs : List Rw} (h : RowsO w B (.slice p n c) rs) (hn : n = rs.length) : YP w w.heap.size p (rs.map (·.1)) := by
  subst hn
  rcases Nat.eq_zero_or_pos rs.length with h0 | h0
  · exact .inl (by rw [List.eq_nil_of_length_eq_zero h0]; rfl)
  · obtain ⟨g, rfl⟩ := owns_some h.own h0
    refine .inr ⟨g, 0, rfl, (h.own.lt g rfl).2, fun i x hx => ?_⟩
    rw [List.getElem?_map] at hx
    cases hr : rs[i]? with
    | none => rw [hr] at hx; simp at hx
    | some r =>
      rw [hr] at hx
      simp only [Option.map_some, Option.some.injEq] at hx
      subst hx
      have hlt := (List.getElem?_eq_some_iff.1 hr).1
      have hm := List.mem_of_getElem? hr
      have hc : w.cell? ⟨g, i, none⟩ = some (rV r) := by rw [owns_cell h.own hlt, List.getElem?_map, hr]; rfl
      refine ⟨r.2.1, r.2.2, ?_, owns_cap (h.each r hm), xp_own rfl (h.each r hm)⟩
      rw [Nat.mul_one, Nat.zero_add]
      exact hc
theorem info_rowO : (Tryd.prog.info? 43).map (fun i => (i.zero, i.size, i.bytes)) = some (some (.slice none 0 0), 1, 24) := by kernel_rfl
/-- One row more. -/
theorem RowsO.more {w w1 w2 : World} {B : Nat} {v v' : Value} {rs : List Rw} {r : Rw} (h : RowsO w1 B v rs) (hlt : ∀ r ∈ rs, ∀ j, (rV r).ownBlock = some j → j < w.heap.size) (hB : B ≤ w.heap.size)
    (hr : w1.ownsRow w.heap.size 34 3 (rV r) r.1.length (r.1.flatMap wcl)) (hv : ∀ j, (rV r).ownBlock = some j → v.ownBlock ≠ some j)
    (hown : w2.ownsRow B 43 1 v' (rs.length + 1) (rs.map rV ++ [rV r])) (hg : w1.grownBy w2 v.ownBlock) (hat : v'.ownBlock = v.ownBlock ∨ v'.ownBlock = some w1.heap.size) : RowsO w2 B v' (rs ++ [r]) := by
  have hne : ∀ s ∈ rs ++ [r], ∀ j, (rV s).ownBlock = some j → j < w1.heap.size ∧ v.ownBlock ≠ some j := by
    intro s hs j hj
    rcases List.mem_append.1 hs with hs | hs
    · exact ⟨((h.each s hs).lt j hj).2, h.apart s hs j hj⟩
    · rw [List.mem_singleton.1 hs] at hj
      exact ⟨(hr.lt j hj).2, hv j hj⟩
  have hk : ∀ s ∈ rs ++ [r], ∀ j, (rV s).ownBlock = some j → w2.heap[j]? = w1.heap[j]? := fun s hs j hj => hg.block j (hne s hs j hj).1 (fun e => (hne s hs j hj).2 e.symm)
  refine ⟨by rw [List.length_append, List.map_append]; exact hown, fun s hs => ?_, fun s hs j hj e => ?_, fun i1 i2 r1 r2 h1 h2 hi j hj e => ?_⟩
  · refine owns_keep (w := w1) ?_ (hk s hs)
    rcases List.mem_append.1 hs with hs | hs
    · exact h.each s hs
    · rw [List.mem_singleton.1 hs]; exact owns_mono hr hB
  · rcases hat with h1 | h1
    · exact (hne s hs j hj).2 (h1 ▸ e)
    · rw [h1] at e; injection e with e; have := (hne s hs j hj).1; omega
  · have l1 := (List.getElem?_eq_some_iff.1 h1).1
    have l2 := (List.getElem?_eq_some_iff.1 h2).1
    rw [List.length_append, List.length_singleton] at l1 l2
    rcases Nat.lt_or_ge i1 rs.length with g1 | g1
    · rw [List.getElem?_append_left g1] at h1
      rcases Nat.lt_or_ge i2 rs.length with g2 | g2
      · rw [List.getElem?_append_left g2] at h2
        exact h.diff i1 i2 r1 r2 h1 h2 hi j hj e
      · rw [List.getElem?_append_right g2, show i2 - rs.length = 0 by omega] at h2
        injection h2 with h2
        subst h2
        have := hlt r1 (List.mem_of_getElem? h1) j hj
        have := (hr.lt j e).1
        omega
    · rw [List.getElem?_append_right g1, show i1 - rs.length = 0 by omega] at h1
      injection h1 with h1
      subst h1
      have g2 : i2 < rs.length := by omega
      rw [List.getElem?_append_left g2] at h2
      have := hlt r2 (List.mem_of_getElem? h2) j e
      have := (hr.lt j hj).1
      omega
theorem flat_set (l : List WI) (k : Nat) (x : WI) (hk : k < l.length) : (((l.flatMap wcl).set (k * 3) (.bool x.neg)).set (k * 3 + 1) (.int .u64 (x.hi : Int))).set (k * 3 + 2) (.int .u64 (x.lo : Int)) = (l.set k x).flatMap wcl := by
  induction l generalizing k with
  | nil => simp at hk
  | cons a l ih =>
    cases k with
    | zero => simp [wcl]
    | succ k =>
      have hk' : k < l.length := by simpa using hk
      rw [List.set_cons_succ, List.flatMap_cons, List.flatMap_cons, ← ih k hk']
      have e : (k + 1) * 3 = (wcl a).length + k * 3 := by rw [wcl_len]; omega
      rw [e]
      simp only [Nat.add_assoc]
      rw [List.set_append_right _ _ (by omega), List.set_append_right _ _ (by omega), List.set_append_right _ _ (by omega)]
      simp only [Nat.add_sub_cancel_left]
theorem owns_setN {w : World} {base : Nat} {e : TypeId} {g c n z : Nat} {xs : List Value} (h : w.ownsRow base e z (.slice (some ⟨g, 0, none⟩) n c) n xs) (k : Nat) (x : Value) (hk : k < n * z) :
    (w.setCell ⟨g, k, none⟩ x).ownsRow base e z (.slice (some ⟨g, 0, none⟩) n c) n (xs.set k x) := by
  rcases owns_block h with ⟨e1, _⟩ | ⟨g', c', cur, e1, hb, hg, hn, hm, hs, ht⟩
  · cases e1
  · injection e1 with e1 _ e2
    injection e1 with e1
    injection e1 with e1
    subst e1; subst e2
    have hnz : n * z ≤ c * z := Nat.mul_le_mul_right z hn
    refine ⟨by simpa using h.1, .inr ⟨g, c, _, rfl, hb, hsc_same hg k x, hn, hm, by simpa using hs, ?_⟩⟩
    rw [← ht, Array.toList_setIfInBounds]
    apply List.ext_getElem?
    intro j
    simp only [List.getElem?_take, List.getElem?_set, List.length_take]
    split <;> split <;> simp_all <;> omega
/-- A number of one row changed. -/
theorem RowsO.put {w : World} {B : Nat} {v : Value} {rs : List Rw} (h : RowsO w B v rs) {f k g c : Nat} {l : List WI} (hf : rs[f]? = some (l, some ⟨g, 0, none⟩, c)) (hk : k < l.length) (x : WI) :
    RowsO (((w.setCell ⟨g, k * 3, none⟩ (.bool x.neg)).setCell ⟨g, k * 3 + 1, none⟩ (.int .u64 (x.hi : Int))).setCell ⟨g, k * 3 + 2, none⟩ (.int .u64 (x.lo : Int))) B v (rs.set f (l.set k x, some ⟨g, 0, none⟩, c)) := by
  have hm := List.mem_of_getElem? hf
  have hfl := (List.getElem?_eq_some_iff.1 hf).1
  have hvg : v.ownBlock ≠ some g := h.apart _ hm g rfl
  have hkeep : ∀ j, j ≠ g → (((w.setCell ⟨g, k * 3, none⟩ (.bool x.neg)).setCell ⟨g, k * 3 + 1, none⟩ (.int .u64 (x.hi : Int))).setCell ⟨g, k * 3 + 2, none⟩ (.int .u64 (x.lo : Int))).heap[j]? = w.heap[j]? := fun j hj => by
    rw [hsc_ne _ hj, hsc_ne _ hj, hsc_ne _ hj]
  have hV : (rs.set f (l.set k x, some ⟨g, 0, none⟩, c)).map rV = rs.map rV := by
    rw [List.map_set]
    have e : rV (l.set k x, some ⟨g, 0, none⟩, c) = rV (l, some ⟨g, 0, none⟩, c) := by simp [rV]
    rw [e]
    apply List.ext_getElem?
    intro i
    rw [List.getElem?_set]
    split
    next hi =>
      subst hi
      rw [List.length_map, if_pos hfl, List.getElem?_map, hf]; rfl
    · rfl
  have hat : ∀ (i : Nat) (s : Rw), (rs.set f (l.set k x, some ⟨g, 0, none⟩, c))[i]? = some s → (i = f ∧ s = (l.set k x, some ⟨g, 0, none⟩, c)) ∨ (i ≠ f ∧ rs[i]? = some s) := by
    intro i s hs
    by_cases hi : f = i
    · subst hi
      rw [List.getElem?_set_self hfl] at hs
      injection hs with hs
      exact .inl ⟨rfl, hs.symm⟩
    · rw [List.getElem?_set_ne hi] at hs
      exact .inr ⟨fun e => hi e.symm, hs⟩
  have hblk : ∀ (i : Nat) (s : Rw), (rs.set f (l.set k x, some ⟨g, 0, none⟩, c))[i]? = some s → ∃ r : Rw, rs[i]? = some r ∧ (rV s).ownBlock = (rV r).ownBlock := by
    intro i s hs
    rcases hat i s hs with ⟨rfl, rfl⟩ | ⟨_, h1⟩
    · exact ⟨_, hf, rfl⟩
    · exact ⟨s, h1, rfl⟩
  refine ⟨?_, fun s hs => ?_, fun s hs j hj => ?_, fun i1 i2 r1 r2 h1 h2 hi j hj => ?_⟩
  · rw [hV, List.length_set]
    exact owns_keep h.own (fun j hj => hkeep j (fun e => hvg (by rw [← e]; exact hj)))
  · obtain ⟨i, hi⟩ := List.getElem?_of_mem hs
    rcases hat i s hi with ⟨rfl, rfl⟩ | ⟨hne, h1⟩
    · have hl : l.length * 3 = l.length * 3 := rfl
      have h0 := owns_setN (h.each _ hm) (k * 3) (.bool x.neg) (by show k * 3 < l.length * 3; omega)
      have h2 := owns_setN h0 (k * 3 + 1) (.int .u64 (x.hi : Int)) (by show k * 3 + 1 < l.length * 3; omega)
      have h3 := owns_setN h2 (k * 3 + 2) (.int .u64 (x.lo : Int)) (by show k * 3 + 2 < l.length * 3; omega)
      have e := flat_set l k x hk
      show World.ownsRow _ B _ 3 (.slice (some ⟨g, 0, none⟩) (l.set k x).length c) (l.set k x).length ((l.set k x).flatMap wcl)
      rw [List.length_set, ← e]
      exact h3
    · exact owns_keep (h.each s (List.mem_of_getElem? h1)) (fun j hj => hkeep j (fun e => by
        subst e
        exact h.diff i f s _ h1 hf hne j hj rfl))
  · obtain ⟨i, hi⟩ := List.getElem?_of_mem hs
    obtain ⟨r, hr, hb⟩ := hblk i s hi
    exact h.apart r (List.mem_of_getElem? hr) j (by rw [← hb]; exact hj)
  · obtain ⟨a1, ha1, hb1⟩ := hblk i1 r1 h1
    obtain ⟨a2, ha2, hb2⟩ := hblk i2 r2 h2
    rw [hb2]
    exact h.diff i1 i2 a1 a2 ha1 ha2 hi j (by rw [← hb1]; exact hj)
theorem map_put (rs : List Rw) (f : Nat) (r : Rw) : (rs.set f r).map (·.1) = (rs.map (·.1)).set f r.1 := List.map_set ..
end Go.Proofs.YtjebgidddfamlaaDoor

namespace Go.Proofs.YtjebgidddfamlaaDoor
open Go.RowKit Go.Proofs.Heap Go.Proofs.Sch Go.Proofs.Wide

theorem hang_eq (x : WI) (w : World) : (binOp .eql 34 (WV x) (WV x)).run Tryd.prog w = .ok (.bool true) w := by
  rw [eql_wi]; simp

set_option maxRecDepth 20000 in
set_option maxHeartbeats 32000000 in
theorem ex_hangs (code : List Ins) (p : Option Addr) (c : Nat) (fs : List (List WI)) (q : Option Addr) (qc : Nat) (pl f k : Int) (x : WI) (w : World) (hfit : ∀ x ∈ code, x.k.fit) (hfs : FitF fs) (hx : x.fit) (hpl : pl < 9223372036854775808) (hf : IP w w.heap.size p code) (hq : YPN w w.heap.size q fs) :
    Calls Tryd.prog 4 #[.slice p code.length c, .slice q fs.length qc, .int .i64 pl, .int .i64 f, .int .i64 k, WV x] w fun r w' => r = .returned (.bool true) ∧ Keep (fun _ => False) w w' := by
  obtain ⟨i0, hi0, hz0, hz1, hz2⟩ := info_parts' info_rowO
  obtain ⟨i1, hi1, hy0, hy1, hy2⟩ := info_parts' info_wi
  have HX := hid hfit; have HFS := hid hfs; have HPL := hid hpl; have HXF := hid hx
  obtain ⟨w1, hw1, hb1, hs1, hk1⟩ := box1 w (WC x) 34
  have HK1 := hid hk1; have HX1 := hid hb1
  have HF := hid (fun (wy : World) (hk : Keep (fun _ => False) w wy) => IP.mono (IP.low hf (Low.keep0 hk)) hk.size)
  have HYN := hid (fun (wy : World) (hk : Keep (fun _ => False) w wy) => YPN.low hq (Low.keep0 hk))
  have HY := hid (fun (wy : World) (hk : Keep (fun _ => False) w wy) => YP.mono (YPN.yp (YPN.low hq (Low.keep0 hk))) hk.size)
  clear hb1 hs1 hk1 hfit hfs hpl hf hq hx
  go_enter Tryd.func4, Tryd.ntmps4
  go_upto_region 1 with fail
  rw [← hw1]
  clear hw1
  obtain ⟨xk, hxk⟩ : ∃ xk, w.heap.size = xk := ⟨_, rfl⟩
  have HXK : Hid (w.heap.size ≤ xk) := hid (by omega)
  rw [hxk] at HX1 ⊢
  clear hxk
  go_wp2_with fail
  refine (ex_awake w1).mono ?_
  rintro r w2 ⟨rfl, hk⟩
  have HK2 := hid (HK1.out.trans hk); have HX2 := hid (hk.get HX1.out id)
  clear hk
  go_wp2_with fail
  refine (ex_great code p c fs q qc w2 (HY.out _ HK2.out)).mono ?_
  rintro r w3 ⟨rfl, hk⟩
  have HK3 := hid (HK2.out.trans hk); have HX3 := hid (hk.get HX2.out id)
  clear hk
  cases ga : greatX code fs
  rotate_left
  · go_wp2
    go_ret
    exact ⟨rfl, HK3.out⟩
  have HGN := hid (greatX_no ga)
  clear ga
  have HCE := hid (fun wy hk => expr_eval code p c fs q qc pl wy HX.out HFS.out HPL.out (HF.out wy hk) (HY.out wy hk))
  obtain ⟨A, e, hae⟩ : ∃ A e, evalW fs pl code = (A, e) := ⟨_, _, rfl⟩
  rw [hae] at HCE
  have HAE := hid hae
  clear hae
  obtain ⟨w5, hw5, hb5, hs5, hk5⟩ := box1 w3 #[.slice q fs.length qc, .int .i64 pl] 40
  have HE5 := hid hb5; have HK5 := hid (HK3.out.trans hk5); have HX5 := hid (hk5.get HX3.out id)
  clear hb5 hs5 hk5
  go_upto_region 6 with fail
  rw [← hw5]
  clear hw5
  generalize w3.heap.size = nb at *
  have e0 := cell_of HE5.out (i := 0) (by rfl)
  have e1 := cell_of HE5.out (i := 1) (by rfl)
  go_wp2_with fail
  refine (HCE.out w5 HK5.out).mono ?_
  rintro r w6 ⟨rfl, hk⟩
  have HK6 := hid (HK5.out.trans hk); have HE6 := hid (hk.get HE5.out id); have HX6 := hid (hk.get HX5.out id)
  clear hk e0 e1
  obtain ⟨w7, hw7, hb7, hs7, hk7⟩ := box1 w6 (WC A) 34
  have HA7 := hid hb7; have HE7 := hid (hk7.get HE6.out id); have HX7 := hid (hk7.get HX6.out id); have HK7 := hid (HK6.out.trans hk7)
  clear hb7 hs7 hk7
  go_upto_region 7 with fail
  rw [← hw7]
  clear hw7
  generalize w6.heap.size = ab at *
  have e0 := cell_of HE7.out (i := 0) (by rfl)
  have e1 := cell_of HE7.out (i := 1) (by rfl)
  go_wp2_with fail
  refine (HCE.out w7 HK7.out).mono ?_
  rintro r w8 ⟨rfl, hk⟩
  have HK8 := hid (HK7.out.trans hk); have HA8 := hid (hk.get HA7.out id); have HX8 := hid (hk.get HX7.out id)
  clear hk e0 e1 HCE
  obtain ⟨w9, hw9, hb9, hs9, hk9⟩ := box1 w8 (WC A) 34
  have HB9 := hid hb9; have HA9 := hid (hk9.get HA8.out id); have HX9 := hid (hk9.get HX8.out id); have HK9 := hid (HK8.out.trans hk9)
  clear hb9 hs9 hk9
  go_upto_region 8 with fail
  rw [← hw9]
  clear hw9
  generalize w8.heap.size = bb at *
  have a0 := cell_of HA9.out (i := 0) (by rfl)
  have a1 := cell_of HA9.out (i := 1) (by rfl)
  have a2 := cell_of HA9.out (i := 2) (by rfl)
  have b0 := cell_of HB9.out (i := 0) (by rfl)
  have b1 := cell_of HB9.out (i := 1) (by rfl)
  have b2 := cell_of HB9.out (i := 2) (by rfl)
  have hnn := neq_same A w9
  have hne : ((e : Int) != (e : Int)) = false := by simp
  go_upto_region 10 with fail
  clear a0 a1 a2 b0 b1 b2 hnn hne HB9
  have hl12 : fs.length ≤ 12 := HGN.out.2.1
  by_cases h1 : f < 0
  · have g1 : decide (f < 0) = true := decide_eq_true h1
    clear h1
    go_wp2
    go_ret
    exact ⟨rfl, HK9.out⟩
  obtain ⟨fn, rfl⟩ := Int.eq_ofNat_of_zero_le (a := f) (by omega)
  have g1 : decide ((fn : Int) < 0) = false := decide_eq_false h1
  by_cases h2 : fs.length ≤ fn
  · have g2 : decide ((fs.length : Int) ≤ (fn : Int)) = true := decide_eq_true (by omega)
    have g2' : decide (fs.length ≤ fn) = true := decide_eq_true h2
    clear h1 h2
    go_wp2
    go_ret
    exact ⟨rfl, HK9.out⟩
  have g2 : decide ((fs.length : Int) ≤ (fn : Int)) = false := decide_eq_false (by omega)
  have g2' : decide (fs.length ≤ fn) = false := decide_eq_false h2
  have hin : (0 : Int) ≤ (fn : Int) ∧ (fn : Int) < (fs.length : Int) := ⟨by omega, by omega⟩
  obtain ⟨row, hrow⟩ : ∃ row, fs[fn]? = some row := ⟨fs[fn], by simp [Nat.lt_of_not_le h2]⟩
  obtain ⟨yb, yo, yq, yk, hqe, hyb, y0, hyk, hxp⟩ := YP.at (HY.out _ HK9.out) hrow
  have HROW := hid hrow
  clear hyb hxp hrow
  by_cases h3 : k < 0
  · have g3 : decide (k < 0) = true := decide_eq_true h3
    clear h1 h2 h3
    subst hqe
    go_wp2
    go_ret
    exact ⟨rfl, HK9.out⟩
  obtain ⟨kn, rfl⟩ := Int.eq_ofNat_of_zero_le (a := k) (by omega)
  have g3 : decide ((kn : Int) < 0) = false := decide_eq_false h3
  by_cases h4 : row.length ≤ kn
  · have g4 : decide ((row.length : Int) ≤ (kn : Int)) = true := decide_eq_true (by omega)
    have g4' : decide (row.length ≤ kn) = true := decide_eq_true h4
    clear h1 h2 h3 h4
    subst hqe
    go_wp2
    go_ret
    exact ⟨rfl, HK9.out⟩
  have g4 : decide ((row.length : Int) ≤ (kn : Int)) = false := decide_eq_false (by omega)
  have g4' : decide (row.length ≤ kn) = false := decide_eq_false h4
  have HRL : Hid (kn < row.length ∧ fn < fs.length) := hid (by omega)
  clear h1 h2 h3 h4
  subst hqe
  have HUS := hid (expr_uses code p c w9 (by have := HGN.out.1; omega) (HF.out _ HK9.out))
  go_wp2_with fail
  refine HUS.out.mono ?_
  rintro r w10 ⟨up, uc, rfl, hup, hk⟩
  have HUP := hid hup
  have HK10 := hid (HK9.out.trans hk); have HA10 := hid (hk.get HA9.out id); have HX10 := hid (hk.get HX9.out id)
  clear hk hup g1 g2 g2' g3 g4 g4' hin y0 hyk HUS
  have HUL : Hid ((usesL code).length ≤ 80) := hid (by
    have := usesL_le code code.length
    rw [List.take_length] at this
    have := HGN.out.1; omega)
  go_wp2_with fail
  go_loopw [19] (fun i wr => ∃ n : Nat, n ≤ (usesL code).length ∧ i = iV n ∧ Keep (fun _ => False) w10 wr ∧ ∀ j u, j < n → (usesL code)[j]? = some u → hitB pl fn kn u = false) (fun i _ => (usesL code).length + 1 - (RowKit.intOf i).toNat)
  case atStart => exact ⟨0, Nat.zero_le _, rfl, Keep.refl _ _, fun j u hj => by omega⟩
  case round =>
    obtain ⟨i, hi, rfl, hkr, hno⟩ := hrel
    have HKR := hid hkr; have HNO := hid hno
    have HKA := hid (HK10.out.trans hkr)
    have HUR := hid (IP.low HUP.out (Low.keep0 hkr))
    clear hkr hno
    have hul := HUL.out
    have hul2 : ((usesL code).length : Int) ≤ 80 := by omega
    by_cases hlt : i < (usesL code).length
    · as_aux_lemma =>
      obtain ⟨u, hu⟩ : ∃ u, (usesL code)[i]? = some u := ⟨(usesL code)[i], by simp [hlt]⟩
      have hnext : hitB pl fn kn u = false → ∀ j v, j < i + 1 → (usesL code)[j]? = some v → hitB pl fn kn v = false := fun h j v hj hv => by
        rcases Nat.lt_or_ge j i with g | g
        · exact HNO.out j v g hv
        · obtain rfl : j = i := by omega
          rw [hu] at hv; injection hv with hv; subst hv; exact h
      obtain ⟨b1, o1, rfl, _, c0, c1, c2, _⟩ := IP.at HUR.out hu
      have hin : (0 : Int) ≤ (i : Int) ∧ (i : Int) < ((usesL code).length : Int) := ⟨by omega, by omega⟩
      clear hu
      obtain ⟨op, xa, xb, xk⟩ := u
      simp only at c0 c1 c2
      generalize (usesL code).length = ul at *
      cases ga : (xa == (fn : Int))
      · have ha : ¬ xa = (fn : Int) := beq_eq_false_iff_ne.1 ga
        have HN : Hid (hitB pl fn kn ⟨op, xa, xb, xk⟩ = false) := hid (by unfold hitB; simp [ha])
        have HN2 := hid (hnext HN.out)
        clear hnext
        go_wp2
        go_roundw
        case rel => exact ⟨i + 1, by omega, by go_num, HKR.out, HN2.out⟩
        case measure => simp [intOf]; omega
      · have ha : xa = (fn : Int) := beq_iff_eq.1 ga
        cases g2 : (op == 2)
        · have h2 : ¬ op = 2 := beq_eq_false_iff_ne.1 g2
          cases g3 : (op == 3)
          · have h3 : ¬ op = 3 := beq_eq_false_iff_ne.1 g3
            clear ha
            have HN : Hid (hitB pl fn kn ⟨op, xa, xb, xk⟩ = false) := hid (by unfold hitB; simp [h2, h3])
            have HN2 := hid (hnext HN.out)
            clear hnext
            go_wp2
            go_roundw
            case rel => exact ⟨i + 1, by omega, by go_num, HKR.out, HN2.out⟩
            case measure => simp [intOf]; omega
          · cases gp : (pl == (kn : Int))
            · have hp : ¬ pl = (kn : Int) := beq_eq_false_iff_ne.1 gp
              clear ha
              have HN : Hid (hitB pl fn kn ⟨op, xa, xb, xk⟩ = false) := hid (by unfold hitB; simp [h2, hp])
              have HN2 := hid (hnext HN.out)
              clear hnext
              go_wp2
              go_roundw
              case rel => exact ⟨i + 1, by omega, by go_num, HKR.out, HN2.out⟩
              case measure => simp [intOf]; omega
            · clear ha h2 hnext
              go_wp2
              go_ret
              exact ⟨rfl, HKA.out⟩
        · have h2 : op = 2 := beq_iff_eq.1 g2
          have g3 : (op == 3) = false := beq_eq_false_iff_ne.2 (by omega)
          have h3 : ¬ op = 3 := by omega
          cases gb : (xb == (kn : Int))
          · have hb : ¬ xb = (kn : Int) := beq_eq_false_iff_ne.1 gb
            clear ha h2
            have HN : Hid (hitB pl fn kn ⟨op, xa, xb, xk⟩ = false) := hid (by unfold hitB; simp [hb, h3])
            have HN2 := hid (hnext HN.out)
            clear hnext
            go_wp2
            go_roundw
            case rel => exact ⟨i + 1, by omega, by go_num, HKR.out, HN2.out⟩
            case measure => simp [intOf]; omega
          · clear ha h2 h3 hnext
            go_wp2
            go_ret
            exact ⟨rfl, HKA.out⟩
    · obtain rfl : i = (usesL code).length := by omega
      have HHIT : Hid (∀ u ∈ usesL code, hitB pl fn kn u = false) := hid (fun u hu => by
        obtain ⟨j, hj⟩ := List.getElem?_of_mem hu
        exact HNO.out j u (List.getElem?_eq_some_iff.1 hj).1 hj)
      have HKW := hid HKA.out
      have HARW := hid (HKR.out.get HA10.out id); have HXRW := hid (HKR.out.get HX10.out id)
      clear HNO HUR HUP HA10 HX10
      generalize wr = w11 at *
      go_wp2_with fail
      have HOW0 : Hid ((w11.alloc (.cells #[] 43)).ownsRow w11.heap.size 43 1 (.slice (some ⟨w11.heap.size, 0, none⟩) 0 0) 0 []) := hid (World.ownsRow_made w11 #[] 0 (Nat.le_refl _) (by unfold maxLen; omega) (by simp))
      go_loopw [20, 21] (fun v i wr => ∃ (n : Nat) (rs : List Rw), n = rs.length ∧ n ≤ fs.length ∧ i = iV n ∧ rs.map (·.1) = fs.take n ∧ RowsO wr w11.heap.size v rs ∧ Keep (fun _ => False) w11 wr) (fun _ i _ => fs.length + 1 - (RowKit.intOf i).toNat)
      case atStart => exact ⟨0, [], rfl, Nat.zero_le _, rfl, by simp, RowsO.nil HOW0.out, (Keep.refl _ _).alloc _⟩
      case round =>
        obtain ⟨n, rs, hn, hnl, rfl, hmap, hro, hkr⟩ := hrel
        obtain ⟨vp, vc, rfl⟩ := owns_val hro.own
        subst hn
        have HRO := hid hro; have HKR := hid hkr; have HMP := hid hmap
        have HKA := hid (HKA.out.trans hkr)
        clear hro hkr hmap HOW0
        have hfl : fs.length ≤ 12 := hl12
        have hfl2 : (fs.length : Int) ≤ 12 := by omega
        by_cases hlt : rs.length < fs.length
        · as_aux_lemma =>
          obtain ⟨l, hl⟩ : ∃ l, fs[rs.length]? = some l := ⟨fs[rs.length], by simp [hlt]⟩
          obtain ⟨b1, o1, lq, lk, he, hb1, x0, hlk, hxp, hnn⟩ := YPN.at (HYN.out _ HKA.out) hl
          injection he with he; injection he with he1 he2 _; subst he1 he2
          have hl20 : l.length ≤ 20 := HGN.out.2.2 l (List.mem_of_getElem? hl)
          have HXP := hid hxp; have HNN := hid hnn
          have HMN : Hid ((rs ++ [((l, none, 0) : Rw)]).map (·.1) = fs.take (rs.length + 1)) := hid (by rw [List.map_append, HMP.out, take_next hl]; rfl)
          have hin : (0 : Int) ≤ (rs.length : Int) ∧ (rs.length : Int) < (fs.length : Int) := ⟨by omega, by omega⟩
          have HLT : Hid (∀ r ∈ rs, ∀ j, (rV r).ownBlock = some j → j < wr.heap.size) := hid (fun r hr j hj => ((HRO.out.each r hr).lt j hj).2)
          have HVL : Hid (∀ j, (Value.slice vp rs.length vc).ownBlock = some j → j < wr.heap.size) := hid (fun j hj => (HRO.out.own.lt j hj).2)
          have HOI : Hid ((wr.alloc (.cells #[] 34)).ownsRow wr.heap.size 34 3 (.slice (some ⟨wr.heap.size, 0, none⟩) 0 0) 0 []) := hid (World.ownsRow_made wr #[] 0 (Nat.le_refl _) (by unfold maxLen; omega) (by simp))
          have HKI := hid ((Keep.refl (fun _ => False) wr).alloc (.cells #[] 34))
          have x1 : (wr.alloc (.cells #[] 34)).cell? ⟨yb, yo + rs.length, none⟩ = some (.slice lq l.length lk) := (Low.cell (Low.of_keep HKI.out (Nat.le_refl _) (fun _ h => h.elim)) (show yb < wr.heap.size by have := HKA.out.size; omega)).trans x0
          clear x0 hb1
          have HRD := hid (rd_xp (XP.low HXP.out (Low.of_keep HKI.out HKA.out.size (fun _ h => h.elim))) HNN.out)
          clear hl hxp hnn hlk
          go_wp2_with (at_builtin; first
            | (refine wpList_append_rd rfl (.tmp 126) (.tmp 130) _ rfl wr.heap.size _ i1 _ 3 24 Tryd.underlying43 hi1 hy0 hy1 hy2 rfl (by decide) _ 0 _ (by rfl) HOI.out _ l.length _ (by rfl) HRD.out (by unfold maxLen; omega) (by omega) HKI.out.size ?_; intro v' w12 hown hgrow hat hn5; rw [Nat.zero_add, List.nil_append] at hown; obtain ⟨iq, ic, rfl⟩ := owns_val hown; have HO12 := hid hown; have HK12 := hid (Keep.grown HKI.out hgrow (fun k hk => .inl (HOI.out.lt k hk).1)); clear hown hgrow hat hn5; have HR12 := hid (HRO.out.low (HK12.out.alloc (.cells #[.slice iq l.length ic] 43))))
            | go_loud (refine wpList_append_rd rfl (.tmp 125) (.tmp 132) _ rfl w11.heap.size _ i0 _ 1 24 Tryd.underlying38 hi0 hz0 hz1 hz2 rfl (by decide) _ rs.length _ (by rfl) HR12.out.own _ 1 [.slice iq l.length ic] (by rfl) (rd_block (heap_alloc_new w12 _) (by rfl) (by simp [Value.oneCell'])) (by unfold maxLen; omega) (by omega) (Nat.le_trans HKR.out.size (HK12.out.alloc _).size) ?_; intro v' w13 hown hgrow hat hn5; obtain ⟨vq, vd, rfl⟩ := owns_val hown; have HM13 := hid (RowsO.more (r := (l, iq, ic)) HR12.out HLT.out HKR.out.size (HO12.out.alloc _) (fun j hj e => by have h1 := (HO12.out.lt j hj).1; have h2 := HVL.out j e; omega) hown hgrow hat); have HK13 := hid (Keep.grown (HKR.out.trans (HK12.out.alloc _)) hgrow (fun k hk => .inl (HR12.out.own.lt k hk).1)); clear hown hgrow hat hn5)
            | fail)
          go_roundw
          case rel => exact ⟨rs.length + 1, rs ++ [(l, iq, ic)], by simp, by omega, by go_num, by have h := HMN.out; simpa using h, HM13.out, HK13.out⟩
          case measure => simp [intOf]; omega
        · as_aux_lemma =>
          have hle : rs.length = fs.length := by omega
          have hmf : rs.map (·.1) = fs := by rw [HMP.out, hle, List.take_length]
          have hkr := HRL.out.1; have hfr := HRL.out.2
          obtain ⟨r, hr⟩ : ∃ r, rs[fn]? = some r := ⟨rs[fn]'(by omega), by simp [hle, hfr]⟩
          have hrow : r.1 = row := by
            have h := HROW.out
            rw [← hmf, List.getElem?_map, hr] at h
            simpa using h
          obtain ⟨rl, rp, rc⟩ := r
          simp only at hrow
          subst hrow
          obtain ⟨g, rfl⟩ := owns_some (HRO.out.each _ (List.mem_of_getElem? hr)) (show 0 < rl.length by omega)
          obtain ⟨gv, rfl⟩ := owns_some HRO.out.own (by omega)
          have HRD := hid (HRO.out.low ((Keep.refl (fun _ => False) wr).drew))
          have hmem := List.mem_of_getElem? hr
          have v0 : wr.drew.cell? ⟨gv, fn, none⟩ = some (.slice (some ⟨g, 0, none⟩) rl.length rc) := by rw [owns_cell HRD.out.own (by omega), List.getElem?_map, hr]; rfl
          obtain ⟨y, hy⟩ : ∃ y, rl[kn]? = some y := ⟨rl[kn], by simp [hkr]⟩
          obtain ⟨b1, o1, he, _, t0, t1, t2⟩ := XP.at (xp_own rfl (HRD.out.each _ hmem)) hy
          injection he with he; injection he with he1 he2 _; subst he1 he2
          rw [Nat.zero_add] at t0 t1 t2
          have f0 : ∀ i, wr.drew.frozen? ⟨g, i, none⟩ = false := fun i => owns_free (HRD.out.each _ hmem) i
          have hgl : w11.heap.size ≤ g := ((HRO.out.each _ hmem).lt g rfl).1
          have HG : Hid (w.heap.size ≤ g) := hid (Nat.le_trans HKW.out.size hgl)
          have HAD := hid (HKR.out.drew.get HARW.out id); have HXD := hid (HKR.out.drew.get HXRW.out id)
          have hgne : ab ≠ g := fun e => by have := lt_of_heap HARW.out; omega
          have HPUT := hid (HRD.out.put hr hkr x)
          have HKD := hid HKA.out.drew
          have hin1 : (0 : Int) ≤ (fn : Int) ∧ (fn : Int) < (rs.length : Int) := ⟨by omega, by omega⟩
          have hin2 : (0 : Int) ≤ (kn : Int) ∧ (kn : Int) < (rl.length : Int) := ⟨by omega, by omega⟩
          go_upto_region 23 with fail
          refine Plan.wp_region_pl [(false, 0, []), (false, 1, []), (false, 2, []), (false, 3, []), (false, 4, []), (false, 5, []), (false, 6, []), (true, 7, [])] (by as_aux_lemma => kernel_rfl) (by as_aux_lemma => kernel_rfl) ?_
          generalize wr.drew = wd at *
          have x0 := cell_of HXD.out (i := 0) (by rfl)
          have x1 := cell_of HXD.out (i := 1) (by rfl)
          have x2 := cell_of HXD.out (i := 2) (by rfl)
          have ff0 := f0 (kn * 3)
          have ff1 := f0 (kn * 3 + 1)
          have ff2 := f0 (kn * 3 + 2)
          clear f0
          iterate 7 (refine Plan.pl_st rfl ?_; go_big_quiet_step (fail); refine wpQuiet_nil ?_)
          refine Plan.pl_ac rfl ?_
          go_wp2
          refine Plan.plQ_mk Plan.chk_end ?_
          refine Plan.pl_end ?_
          obtain ⟨wS, hwS⟩ : ∃ wS, (((wd.setCell ⟨g, kn * 3, none⟩ (.bool x.neg)).setCell ⟨g, kn * 3 + 1, none⟩ (.int .u64 (x.hi : Int))).setCell ⟨g, kn * 3 + 2, none⟩ (.int .u64 (x.lo : Int))) = wS := ⟨_, rfl⟩
          have HAS : Hid (wS.heap[ab]? = some (.cells (WC A) 34 (0, 0))) := hid (by rw [← hwS, hsc_ne _ hgne, hsc_ne _ hgne, hsc_ne _ hgne]; exact HAD.out)
          have HKS : Hid (Keep (fun _ => False) w wS) := hid (by
            rw [← hwS]
            exact ((HKD.out.setCell_new (p := ⟨g, kn * 3, none⟩) HG.out _).setCell_new (p := ⟨g, kn * 3 + 1, none⟩) HG.out _).setCell_new (p := ⟨g, kn * 3 + 2, none⟩) HG.out _)
          rw [hwS] at HPUT ⊢
          clear hwS x0 x1 x2 ff0 ff1 ff2 t0 t1 t2 v0 hgne HAD HXD HKD HRD
          have hfl' : (fs.set fn (rl.set kn x)).length = fs.length := List.length_set
          have HYS : Hid (YP wS wS.heap.size (some ⟨gv, 0, none⟩) (fs.set fn (rl.set kn x))) := hid (by
            have h := HPUT.out
            have h2 := RowsO.yp (p := some ⟨gv, 0, none⟩) (n := rs.length) (c := vc) h (by rw [List.length_set])
            rw [map_put, hmf] at h2
            exact h2)
          have HFX : Hid (FitF (fs.set fn (rl.set kn x))) := hid (by
            intro l hl y hy
            rcases List.mem_or_eq_of_mem_set hl with h | rfl
            · exact HFS.out l h y hy
            · rcases List.mem_or_eq_of_mem_set hy with h | rfl
              · exact HFS.out rl (List.mem_of_getElem? HROW.out) y h
              · exact HXF.out)
          have HEV := hid (expr_eval code p c (fs.set fn (rl.set kn x)) (some ⟨gv, 0, none⟩) vc pl wS HX.out HFX.out HPL.out (HF.out _ HKS.out) HYS.out)
          rw [evalW_other x HROW.out HHIT.out, HAE.out, hfl'] at HEV
          clear hfl' hmf hr hmem HPUT HYS HFX
          go_wp2_with fail
          refine HEV.out.mono ?_
          rintro r wT ⟨rfl, hk⟩
          have HKT := hid (HKS.out.trans hk); have HAT := hid (hk.get HAS.out id)
          clear hk HEV
          obtain ⟨wU, hwU, hbU, hsU, hkU⟩ := box1 wT (WC A) 34
          have HDU := hid hbU; have HAU := hid (hkU.get HAT.out id); have HKU := hid (HKT.out.trans hkU)
          clear hbU hsU hkU
          go_upto_region 25 with fail
          rw [← hwU]
          clear hwU
          generalize wT.heap.size = db at *
          have a0 := cell_of HAU.out (i := 0) (by rfl)
          have a1 := cell_of HAU.out (i := 1) (by rfl)
          have a2 := cell_of HAU.out (i := 2) (by rfl)
          have d0 := cell_of HDU.out (i := 0) (by rfl)
          have d1 := cell_of HDU.out (i := 1) (by rfl)
          have d2 := cell_of HDU.out (i := 2) (by rfl)
          have heq := hang_eq A wU
          go_wp2
          go_ret
          exact ⟨rfl, HKU.out⟩
end Go.Proofs.YtjebgidddfamlaaDoor
