/- What is proved: the sample of the formulas' laws: its answers are the document's. -/
import Derived.Test.YtjebgidddfamlaaDoorMExDecLaw
import Derived.Test.YtjebgidddfamlaaDoorMExEval
import Derived.Test.YtjebgidddfamlaaDoorMExShow
import Derived.Test.YtjebgidddfamlaaDoorMExpr2
import Derived.Test.YtjebgidddfamlaaDoorMHeap
import Derived.Test.YtjebgidddfamlaaDoorProg
import Derived.Deep.Slices
import Derived.Deep.Strs
import Derived.ProofKit
import Derived.OpenShut
import Derived.ShutString
import Derived.ChangeOld
import Derived.Below
namespace Go.Proofs.YtjebgidddfamlaaDoor
open Go.RowKit Go.Proofs.Heap Go.Proofs.Sch Go.Proofs.Wide

section
variable {P : Program} {ops : Array Oper}
theorem quiet_eql_g {Q : Act → Prop} {rest : List Oper} {a : Act} {o : Oper} {w : World} (hgd : Region.wanted o (yielded ops a.tmps) = true) (t u : TypeId) (x y : Operand) (xs ys : Array Value) (b : Bool) (ho : o.op = .binOp .eql t x y u) (hx : a.eval x = .agg xs) (hy : a.eval y = .agg ys)
    (hm : P.eqGuardType P.depth t = false) (hl : (binOp .eql t (.agg xs) (.agg ys)).run P w = .ok (.bool b) w) (h : wpQuiet P ops (fun w' => w' = w) Q rest (a.put o.dst (.bool b))) : wpQuiet P ops (fun w' => w' = w) Q (o :: rest) a := by
  refine BigFrame.wpQuiet_want hgd fun K hK => ⟨.bool b, fun w' hw' => ?_, hK _ h⟩
  subst hw'
  have hg := fun (o1 o2 : Operand) => run_eqGuard_agg (P := P) (w := w') .eql t o1 o2 xs ys hm
  unfold Oper.quietAt execOp
  simp [ho, hx, hy, hl, hg]
  exact ⟨rfl, rfl⟩
end
theorem smp_eqH (w : World) : (binOp .eql 36 (.agg #[.int .i64 3, .int .i64 3, .int .i64 0, .bool false, .int .u64 0, .int .u64 0]) (.agg #[.int .i64 3, .int .i64 3, .int .i64 0, .bool false, .int .u64 0, .int .u64 0])).run Tryd.prog w = .ok (.bool true) w := by kernel_rfl
theorem smp_eqI (w : World) : (binOp .eql 34 (.agg #[.bool false, .int .u64 0, .int .u64 42]) (.agg #[.bool false, .int .u64 0, .int .u64 42])).run Tryd.prog w = .ok (.bool true) w := by kernel_rfl
abbrev smpC : List Ins := [⟨2, 0, 0, zW⟩, ⟨1, 0, 0, ⟨false, 0, 2⟩⟩, ⟨7, 0, 0, zW⟩]
abbrev smpN : List Ins := [⟨1, 0, 0, zW⟩, ⟨1, 0, 0, zW⟩, ⟨17, 0, 0, zW⟩]
abbrev smpH : List Ins := [⟨3, 3, 0, zW⟩]
theorem smp_eval : evalW [[⟨false, 0, 21⟩]] 0 smpC = (⟨false, 0, 42⟩, 0) := by decide +kernel
theorem smp_range : evalW [] 0 smpC = (zW, 3) := by decide +kernel
theorem smp_need : evalW [] 0 smpN = (zW, 9) := by decide +kernel
theorem smp_fitC : ∀ x ∈ smpC, x.k.fit := by
  intro x hx
  simp only [smpC, List.mem_cons, List.not_mem_nil, or_false] at hx
  rcases hx with rfl | rfl | rfl
  · exact zW_fit
  · exact ⟨by decide, by decide⟩
  · exact zW_fit
theorem smp_fitN : ∀ x ∈ smpN, x.k.fit := by
  intro x hx
  simp only [smpN, List.mem_cons, List.not_mem_nil, or_false] at hx
  rcases hx with rfl | rfl | rfl <;> exact zW_fit
theorem smp_fitH : ∀ x ∈ smpH, x.k.fit := by
  intro x hx; obtain rfl := List.mem_singleton.1 hx; exact zW_fit
theorem smp_encC : encC smpH = 0 := by
  refine encC_of (by decide +kernel) ?_
  decide +kernel
theorem smp_enc : expS smpH = ⟨#[1, 3, 3]⟩ := by
  unfold expS
  rw [if_pos smp_encC]
  decide +kernel
theorem smp_dec : decX ⟨#[1, 3, 3]⟩ = smpH ∧ decEX ⟨#[1, 3, 3]⟩ = 0 := by
  have h := decX_enc smp_encC (smp_fitH)
  rw [smp_enc] at h
  exact h
theorem smp_it0 : itB 0 = ⟨#[48]⟩ := by unfold itB Lib.itoa; rw [if_neg (by decide)]; rw [show (0 : Int).toNat = 0 from rfl, Lib.decDigits_one (by decide)]; rfl
theorem smp_t2 : textW ⟨false, 0, 2⟩ = ⟨#[50]⟩ := by
  have hd : Lib.decDigits (WI.mag ⟨false, 0, 2⟩) = [50] := by
    rw [show WI.mag ⟨false, 0, 2⟩ = 2 by decide, Lib.decDigits_one (by decide)]; rfl
  unfold textW
  rw [if_pos (by decide)]
  simp only [hd]
  rfl
theorem smp_show : showX smpC = ⟨#[109, 117, 108, 40, 102, 48, 46, 48, 44, 50, 41]⟩ := by
  have e1 : leafT ⟨2, 0, 0, zW⟩ = ⟨#[102, 48, 46, 48]⟩ := by
    show (⟨#[102]⟩ ++ itB 0 ++ ⟨#[46]⟩ ++ itB 0 : ByteArray) = _
    rw [smp_it0]; decide +kernel
  have e2 : leafT ⟨1, 0, 0, ⟨false, 0, 2⟩⟩ = ⟨#[50]⟩ := smp_t2
  have e3 : showRun [] smpC = [insT ⟨7, 0, 0, zW⟩ [leafT ⟨2, 0, 0, zW⟩, leafT ⟨1, 0, 0, ⟨false, 0, 2⟩⟩]] := rfl
  unfold showX
  rw [if_pos (by decide +kernel), e3, e1, e2]
  decide +kernel
theorem smp_uses : usesL smpC = [⟨2, 0, 0, zW⟩] := by rfl
theorem ip3 {w : World} {g : Nat} {x y z : Ins} (h : w.heap[g]? = some (.cells ((icl x ++ icl y ++ icl z).toArray) 36 (0, 0))) : IP w w.heap.size (some ⟨g, 0, none⟩) [x, y, z] := by
  refine .inr ⟨g, 0, rfl, lt_of_heap h, fun i u hx => ?_⟩
  match i, hx with
  | 0, hx => injection hx with hx; subst hx; exact ⟨cell_of h rfl, cell_of h rfl, cell_of h rfl, cell_of h rfl, cell_of h rfl, cell_of h rfl⟩
  | 1, hx => injection hx with hx; subst hx; exact ⟨cell_of h rfl, cell_of h rfl, cell_of h rfl, cell_of h rfl, cell_of h rfl, cell_of h rfl⟩
  | 2, hx => injection hx with hx; subst hx; exact ⟨cell_of h rfl, cell_of h rfl, cell_of h rfl, cell_of h rfl, cell_of h rfl, cell_of h rfl⟩
  | j + 3, hx => simp at hx
theorem ip1 {w : World} {g : Nat} {x : Ins} (h : w.heap[g]? = some (.cells ((icl x).toArray) 36 (0, 0))) : IP w w.heap.size (some ⟨g, 0, none⟩) [x] := by
  refine .inr ⟨g, 0, rfl, lt_of_heap h, fun i u hx => ?_⟩
  match i, hx with
  | 0, hx => injection hx with hx; subst hx; exact ⟨cell_of h rfl, cell_of h rfl, cell_of h rfl, cell_of h rfl, cell_of h rfl, cell_of h rfl⟩
  | j + 1, hx => simp at hx
theorem yp_one {w : World} {g h c : Nat} {x : WI} (hh : w.heap[h]? = some (.cells #[.slice (some ⟨g, 0, none⟩) 1 c] 43 (0, 0))) (hc : 1 ≤ c) (hg : w.heap[g]? = some (.cells (WC x) 34 (0, 0))) : YP w w.heap.size (some ⟨h, 0, none⟩) [[x]] := by
  refine .inr ⟨h, 0, rfl, lt_of_heap hh, fun i u hx => ?_⟩
  match i, hx with
  | 0, hx =>
    injection hx with hx; subst hx
    refine ⟨some ⟨g, 0, none⟩, c, cell_of hh rfl, hc, .inr ⟨g, 0, rfl, lt_of_heap hg, fun j v hv => ?_⟩⟩
    match j, hv with
    | 0, hv => injection hv with hv; subst hv; exact ⟨cell_of hg rfl, cell_of hg rfl, cell_of hg rfl⟩
    | j + 1, hv => simp at hv
  | j + 1, hx => simp at hx

set_option maxRecDepth 20000 in
set_option maxHeartbeats 16000000 in
theorem ex_awake (w : World) : Calls Tryd.prog 6 #[] w fun r w' => r = .returned (.bool true) ∧ Keep (fun _ => False) w w' := by
  go_enter Tryd.func6, Tryd.ntmps6
  go_wp2_with fail
  refine (w_of 2 (by omega) _).mono ?_
  rintro r w1 ⟨rfl, hk⟩
  have HK1 := hid hk
  clear hk
  obtain ⟨w2, hw2, hb2, hs2, hk2⟩ := box1 w1 #[.int .i64 2, .int .i64 0, .int .i64 0, .bool false, .int .u64 0, .int .u64 0, .int .i64 1, .int .i64 0, .int .i64 0, .bool false, .int .u64 0, .int .u64 2, .int .i64 7, .int .i64 0, .int .i64 0, .bool false, .int .u64 0, .int .u64 0] 36
  have HC2 : Hid (w2.heap[w1.heap.size]? = some (.cells ((icl ⟨2, 0, 0, zW⟩ ++ icl ⟨1, 0, 0, ⟨false, 0, 2⟩⟩ ++ icl ⟨7, 0, 0, zW⟩).toArray) 36 (0, 0))) := hid hb2
  have HK2 := hid (HK1.out.trans hk2)
  clear hb2 hs2 hk2
  go_upto_region 2 with fail
  rw [← hw2]
  clear hw2
  generalize w1.heap.size = cb at *
  go_wp2_with fail
  refine (w_of 21 (by omega) _).mono ?_
  rintro r w3 ⟨rfl, hk⟩
  have HK3 := hid (HK2.out.trans hk)
  have HC3 := hid (hk.get HC2.out id)
  clear hk
  obtain ⟨w4, hw4, hb4, hb5, hs4, hk4⟩ := box2 w3 #[.bool false, .int .u64 0, .int .u64 21] #[.slice (some ⟨w3.heap.size, 0, none⟩) 1 1] 34 43
  have HY4 : Hid (YP w4 w4.heap.size (some ⟨w3.heap.size + 1, 0, none⟩) [[⟨false, 0, 21⟩]]) := hid (yp_one hb5 (Nat.le_refl _) hb4)
  have HK4 := hid (HK3.out.trans hk4)
  have HC4 := hid (hk4.get HC3.out id)
  clear hb4 hb5 hs4 hk4
  have HEV := hid (expr_eval smpC (some ⟨cb, 0, none⟩) 3 [[⟨false, 0, 21⟩]] (some ⟨w3.heap.size + 1, 0, none⟩) 1 0 w4 smp_fitC (by intro l hl; obtain rfl := List.mem_singleton.1 hl; intro x hx; obtain rfl := List.mem_singleton.1 hx; exact ⟨by decide, by decide⟩) (by omega) (ip3 HC4.out) HY4.out)
  rw [smp_eval] at HEV
  go_wp2_with fail
  rw [← hw4]
  refine HEV.out.mono ?_
  rintro r w5 ⟨rfl, hk⟩
  have HK5 := hid (HK4.out.trans hk)
  have HC5 := hid (hk.get HC4.out id)
  clear hk hw4 HEV
  obtain ⟨w6, hw6, hb6, hs6, hk6⟩ := box1 w5 #[.bool false, .int .u64 0, .int .u64 42] 34
  have HX6 := hid hb6
  have HK6 := hid (HK5.out.trans hk6)
  have HC6 := hid (hk6.get HC5.out id)
  clear hb6 hs6 hk6
  go_upto_region 3 with fail
  rw [← hw6]
  clear hw6
  generalize w5.heap.size = xb at *
  have HEV := hid (expr_eval smpC (some ⟨cb, 0, none⟩) 3 [] none 0 0 w6 smp_fitC (by intro l hl; simp at hl) (by omega) (ip3 HC6.out) (.inl rfl))
  rw [smp_range] at HEV
  go_wp2_with fail
  refine HEV.out.mono ?_
  rintro r w7 ⟨rfl, hk⟩
  have HK7 := hid (HK6.out.trans hk)
  have HC7 := hid (hk.get HC6.out id); have HX7 := hid (hk.get HX6.out id)
  clear hk HEV
  obtain ⟨w8, hw8, hb8, hs8, hk8⟩ := box1 w7 #[.bool false, .int .u64 0, .int .u64 0] 34
  have HK8 := hid (HK7.out.trans hk8)
  have HC8 := hid (hk8.get HC7.out id); have HX8 := hid (hk8.get HX7.out id)
  clear hb8 hs8 hk8
  go_upto_region 4 with fail
  rw [← hw8]
  clear hw8
  generalize w7.heap.size = yb at *
  obtain ⟨w9, hw9, hb9, hs9, hk9⟩ := box1 w8 #[.int .i64 1, .int .i64 0, .int .i64 0, .bool false, .int .u64 0, .int .u64 0, .int .i64 1, .int .i64 0, .int .i64 0, .bool false, .int .u64 0, .int .u64 0, .int .i64 17, .int .i64 0, .int .i64 0, .bool false, .int .u64 0, .int .u64 0] 36
  have HN9 : Hid (w9.heap[w8.heap.size]? = some (.cells ((icl ⟨1, 0, 0, zW⟩ ++ icl ⟨1, 0, 0, zW⟩ ++ icl ⟨17, 0, 0, zW⟩).toArray) 36 (0, 0))) := hid hb9
  have HK9 := hid (HK8.out.trans hk9)
  have HC9 := hid (hk9.get HC8.out id); have HX9 := hid (hk9.get HX8.out id)
  clear hb9 hs9 hk9
  have HEV := hid (expr_eval smpN (some ⟨w8.heap.size, 0, none⟩) 3 [] none 0 0 w9 smp_fitN (by intro l hl; simp at hl) (by omega) (ip3 HN9.out) (.inl rfl))
  rw [smp_need] at HEV
  go_wp2_with fail
  rw [← hw9]
  clear hw9
  refine HEV.out.mono ?_
  rintro r w10 ⟨rfl, hk⟩
  have HK10 := hid (HK9.out.trans hk)
  have HC10 := hid (hk.get HC9.out id); have HX10 := hid (hk.get HX9.out id)
  clear hk HEV HN9
  generalize w8.heap.size = nb at *
  obtain ⟨w11, hw11, hb11, hs11, hk11⟩ := box1 w10 #[.bool false, .int .u64 0, .int .u64 0] 34
  have HK11 := hid (HK10.out.trans hk11)
  have HC11 := hid (hk11.get HC10.out id); have HX11 := hid (hk11.get HX10.out id)
  clear hb11 hs11 hk11
  go_upto_region 5 with fail
  rw [← hw11]
  clear hw11
  generalize w10.heap.size = zb at *
  obtain ⟨w12, hw12, hb12, hs12, hk12⟩ := box1 w11 #[.int .i64 3, .int .i64 3, .int .i64 0, .bool false, .int .u64 0, .int .u64 0] 36
  have HN12 : Hid (w12.heap[w11.heap.size]? = some (.cells ((icl ⟨3, 3, 0, zW⟩).toArray) 36 (0, 0))) := hid hb12
  have HK12 := hid (HK11.out.trans hk12)
  have HC12 := hid (hk12.get HC11.out id); have HX12 := hid (hk12.get HX11.out id)
  clear hb12 hs12 hk12
  have HEN := hid (expr_encodeX smpH (some ⟨w11.heap.size, 0, none⟩) 1 w12 smp_fitH (ip1 HN12.out))
  rw [smp_enc, smp_encC] at HEN
  go_wp2_with fail
  rw [← hw12]
  clear hw12
  refine HEN.out.mono ?_
  rintro r w13 ⟨rfl, hk⟩
  have HK13 := hid (HK12.out.trans hk)
  have HC13 := hid (hk.get HC12.out id); have HX13 := hid (hk.get HX12.out id)
  clear hk HEN HN12
  generalize w11.heap.size = hb at *
  have HDE := hid (ex_decode ⟨#[1, 3, 3]⟩ w13 (by decide))
  unfold DecI at HDE
  rw [smp_dec.1, smp_dec.2] at HDE
  go_wp2_with fail
  refine HDE.out.mono ?_
  rintro r w14 ⟨dp, dc, rfl, hown, hk⟩
  have HK14 := hid (HK13.out.trans hk)
  have HC14 := hid (hk.get HC13.out id); have HX14 := hid (hk.get HX13.out id)
  obtain ⟨db, rfl⟩ := owns_some hown (by decide)
  have HDP := hid (ip_own rfl hown)
  clear hk HDE hown
  go_upto_region 7 with fail
  have HK15 := hid HK14.out.drew; have HC15 : Hid (w14.drew.heap[cb]? = _) := hid HC14.out; have HX15 : Hid (w14.drew.heap[xb]? = _) := hid HX14.out
  have HD15 : Hid (IP w14.drew w14.drew.heap.size (some ⟨db, 0, none⟩) [⟨3, 3, 0, zW⟩]) := hid HDP.out
  refine Plan.wp_region_pl3 [(false, 0, []), (false, 1, []), (false, 2, []), (false, 3, []), (true, 4, [3]), (false, 5, []), (false, 6, []), (false, 7, []), (false, 8, []), (false, 9, []), (false, 10, []), (false, 11, []), (false, 12, []), (false, 13, []), (false, 14, []), (false, 15, []), (false, 16, []), (false, 17, []), (false, 18, []), (false, 19, []), (false, 20, []), (false, 21, []), (false, 22, []), (false, 23, []), (false, 24, []), (false, 25, []), (false, 26, []), (false, 27, []), (false, 28, []), (false, 29, []), (false, 30, []), (false, 31, []), (false, 32, []), (false, 33, []), (false, 34, []), (false, 35, []), (false, 36, []), (false, 37, []), (false, 38, []), (false, 39, []), (false, 40, []), (true, 41, []), (false, 42, []), (false, 43, []), (false, 44, []), (true, 45, []), (false, 46, []), (false, 47, []), (false, 48, []), (false, 49, []), (true, 50, []), (false, 51, []), (false, 52, []), (false, 53, []), (false, 54, [])] (by as_aux_lemma => kernel_rfl) (by as_aux_lemma => kernel_rfl) ?_
  clear HDP
  generalize w14.drew = w15 at *
  have x0 : w15.cell? ⟨xb, 0, none⟩ = some (.bool false) := cell_of HX15.out (by rfl)
  have x1 : w15.cell? ⟨xb, 1, none⟩ = some (.int .u64 0) := cell_of HX15.out (by rfl)
  have x2 : w15.cell? ⟨xb, 2, none⟩ = some (.int .u64 42) := cell_of HX15.out (by rfl)
  iterate 4 (refine Plan.pl_st rfl ?_; go_big_quiet_step (fail); refine wpQuiet_nil ?_)
  refine Plan.pl_ac rfl ?_
  go_wp2_with fail
  refine (w_of 42 (by omega) _).mono ?_
  rintro r w16 ⟨rfl, hk⟩
  have HK16 := hid (HK15.out.trans hk); have HC16 := hid (hk.get HC15.out id); have HX16 := hid (hk.get HX15.out id)
  have HD16 := hid (IP.low HD15.out (Low.keep0 hk))
  clear hk x0 x1 x2
  have x0 : w16.cell? ⟨xb, 0, none⟩ = some (.bool false) := cell_of HX16.out (by rfl)
  have x1 : w16.cell? ⟨xb, 1, none⟩ = some (.int .u64 0) := cell_of HX16.out (by rfl)
  have x2 : w16.cell? ⟨xb, 2, none⟩ = some (.int .u64 42) := cell_of HX16.out (by rfl)
  go_wp2
  refine Plan.plQ_mk ?_ ?_
  · iterate 1 (refine Plan.chk_st rfl ?_ ?_; focus (go_big_quiet_step (fail); exact wpQuiet_nil rfl))
    exact Plan.chk_end
  refine Plan.pl_st rfl ?_
  refine quiet_eql_g rfl _ _ _ _ _ _ _ rfl (by rfl) (by rfl) (by kernel_rfl) (smp_eqI _) ?_
  simp only [Act.put, List.setIfInBounds_toArray, List.set_cons_succ, List.set_cons_zero]
  refine wpQuiet_nil ?_
  clear x0 x1 x2
  iterate 29 (refine Plan.pl_st rfl ?_; go_big_quiet_step (fail); refine wpQuiet_nil ?_)
  obtain ⟨db2, do2, he, _, d0, d1, d2, d3, d4, d5⟩ := IP.at HD16.out (i := 0) rfl
  injection he with he; injection he with he1 he2 _; subst he1 he2
  simp only [Nat.zero_mul, Nat.add_zero, Nat.zero_add] at d0 d1 d2 d3 d4 d5
  iterate 2 (refine Plan.pl_st rfl ?_; go_big_quiet_step (fail); refine wpQuiet_nil ?_)
  clear d0 d1 d2 d3 d4 d5
  refine Plan.pl_st rfl ?_
  refine quiet_eql_g rfl _ _ _ _ _ _ _ rfl (by rfl) (by rfl) (by kernel_rfl) (smp_eqH _) ?_
  simp only [Act.put, List.setIfInBounds_toArray, List.set_cons_succ, List.set_cons_zero]
  refine wpQuiet_nil ?_
  iterate 3 (refine Plan.pl_st rfl ?_; go_big_quiet_step (fail); refine wpQuiet_nil ?_)
  have HSH := hid (expr_show smpC (some ⟨cb, 0, none⟩) 3 w16 smp_fitC (ip3 HC16.out))
  rw [smp_show] at HSH
  refine Plan.pl_ac rfl ?_
  go_wp2_with fail
  refine HSH.out.mono ?_
  rintro r w17 ⟨rfl, hk⟩
  have HK17 := hid (HK16.out.trans hk); have HC17 := hid (hk.get HC16.out id)
  clear hk HSH
  go_wp2
  refine Plan.plQ_mk Plan.chk_end ?_
  iterate 3 (refine Plan.pl_st rfl ?_; go_big_quiet_step (fail); refine wpQuiet_nil ?_)
  have HCH : Hid (Calls Tryd.prog 13 #[.slice none 0 0] w17 fun r w' => r = .returned (iV 4) ∧ Keep (fun _ => False) w17 w') := hid (expr_check [] none 0 w17 (by intro x hx; simp at hx) (.inl rfl))
  refine Plan.pl_ac rfl ?_
  go_wp2_with fail
  refine HCH.out.mono ?_
  rintro r w18 ⟨rfl, hk⟩
  have HK18 := hid (HK17.out.trans hk); have HC18 := hid (hk.get HC17.out id)
  clear hk HCH
  go_wp2
  refine Plan.plQ_mk Plan.chk_end ?_
  iterate 4 (refine Plan.pl_st rfl ?_; go_big_quiet_step (fail); refine wpQuiet_nil ?_)
  have HUS := hid (expr_uses smpC (some ⟨cb, 0, none⟩) 3 w18 (by decide) (ip3 HC18.out))
  rw [smp_uses] at HUS
  refine Plan.pl_ac rfl ?_
  go_wp2_with fail
  refine HUS.out.mono ?_
  rintro r w19 ⟨up, uc, rfl, _, hk⟩
  have HK19 := hid (HK18.out.trans hk)
  clear hk HUS
  go_wp2
  refine Plan.plQ_mk Plan.chk_end ?_
  iterate 4 (refine Plan.pl_st rfl ?_; go_big_quiet_step (fail); refine wpQuiet_nil ?_)
  refine Plan.pl_end ?_
  go_wp2
  go_ret
  exact ⟨rfl, HK19.out⟩
end Go.Proofs.YtjebgidddfamlaaDoor

namespace Go.Proofs.YtjebgidddfamlaaDoor
open Go.RowKit Go.Proofs.Heap Go.Proofs.Sch Go.Proofs.Wide

/-- More than is asked. -/
def greatX (code : List Ins) (fs : List (List WI)) : Bool := decide (80 < code.length) || (decide (12 < fs.length) || fs.any (fun l => decide (20 < l.length)))
theorem greatX_no {code : List Ins} {fs : List (List WI)} (h : greatX code fs = false) : code.length ≤ 80 ∧ fs.length ≤ 12 ∧ ∀ l ∈ fs, l.length ≤ 20 := by
  unfold greatX at h
  simp only [Bool.or_eq_false_iff, decide_eq_false_iff_not, List.any_eq_false, decide_eq_true_eq] at h
  exact ⟨by omega, by omega, fun t ht => by have := h.2.2 t ht; omega⟩

set_option maxRecDepth 20000 in
set_option maxHeartbeats 8000000 in
theorem ex_great (code : List Ins) (p : Option Addr) (c : Nat) (fs : List (List WI)) (q : Option Addr) (qc : Nat) (w : World) (hq : YP w w.heap.size q fs) :
    Calls Tryd.prog 7 #[.slice p code.length c, .slice q fs.length qc] w fun r w' => r = .returned (.bool (greatX code fs)) ∧ Keep (fun _ => False) w w' := by
  have HY := hid (fun (wy : World) (hk : Keep (fun _ => False) w wy) => YP.low hq (Low.keep0 hk))
  have HR : Hid (greatX code fs = (decide (80 < code.length) || (decide (12 < fs.length) || fs.any (fun l => decide (20 < l.length))))) := hid rfl
  generalize greatX code fs = R at *
  clear hq
  go_enter Tryd.func7, Tryd.ntmps7
  cases e1 : decide (80 < code.length)
  rotate_left
  · have G : Hid (R = true) := hid (by rw [HR.out, e1]; rfl)
    have e1' : decide ((80 : Int) < (code.length : Int)) = true := decide_eq_true (by have := of_decide_eq_true e1; omega)
    go_wp2
    go_ret
    exact ⟨by rw [G.out]; rfl, Keep.refl _ _⟩
  have e1' : decide ((80 : Int) < (code.length : Int)) = false := decide_eq_false (by have := of_decide_eq_false e1; omega)
  cases e2 : decide (12 < fs.length)
  rotate_left
  · have G : Hid (R = true) := hid (by rw [HR.out, e1, e2]; rfl)
    have e2' : decide ((12 : Int) < (fs.length : Int)) = true := decide_eq_true (by have := of_decide_eq_true e2; omega)
    go_wp2
    go_ret
    exact ⟨by rw [G.out]; rfl, Keep.refl _ _⟩
  have e2' : decide ((12 : Int) < (fs.length : Int)) = false := decide_eq_false (by have := of_decide_eq_false e2; omega)
  have HR2 : Hid (R = fs.any (fun l => decide (20 < l.length))) := hid (by rw [HR.out, e1, e2]; rfl)
  have hl : fs.length ≤ 12 := by have := of_decide_eq_false e2; omega
  go_wp2_with fail
  clear e1 e2 e1' e2' HR
  go_loopw [5] (fun i wr => ∃ k : Nat, k ≤ fs.length ∧ i = iV k ∧ (∀ j t, j < k → fs[j]? = some t → ¬ 20 < t.length) ∧ Keep (fun _ => False) w wr) (fun i _ => fs.length + 1 - (RowKit.intOf i).toNat)
  case atStart => exact ⟨0, Nat.zero_le _, rfl, fun j t hj => by omega, Keep.refl _ _⟩
  case round =>
    obtain ⟨k, hk, rfl, hal, hkr⟩ := hrel
    have HAL := hid hal; have HKR := hid hkr
    clear hal hkr
    by_cases hlt : k < fs.length
    · obtain ⟨t, ht⟩ : ∃ t, fs[k]? = some t := ⟨fs[k], by simp [hlt]⟩
      obtain ⟨b1, o1, tp, tc, rfl, hb1, x0, _⟩ := YP.at (HY.out wr HKR.out) ht
      have hin : (0 : Int) ≤ (k : Int) ∧ (k : Int) < (fs.length : Int) := ⟨by omega, by omega⟩
      by_cases hg : 20 < t.length
      · have G : Hid (R = true) := hid (by
          rw [HR2.out, List.any_eq_true]
          exact ⟨t, List.mem_of_getElem? ht, decide_eq_true hg⟩)
        have g1 : decide ((20 : Int) < (t.length : Int)) = true := decide_eq_true (by omega)
        have g2 : decide (20 < t.length) = true := decide_eq_true hg
        clear ht hg
        go_wp2
        go_ret
        exact ⟨by rw [G.out]; rfl, HKR.out⟩
      · have HN : Hid (∀ j t, j < k + 1 → fs[j]? = some t → ¬ 20 < t.length) := hid (fun j u hj hu => by
          rcases Nat.lt_or_ge j k with h | h
          · exact HAL.out j u h hu
          · obtain rfl : j = k := by omega
            rw [ht] at hu; injection hu with hu; subst hu; exact hg)
        have g1 : decide ((20 : Int) < (t.length : Int)) = false := decide_eq_false (by omega)
        have g2 : decide (20 < t.length) = false := decide_eq_false hg
        clear ht hg
        go_wp2
        go_roundw
        case rel => exact ⟨k + 1, by omega, by go_num, HN.out, HKR.out⟩
        case measure => simp [intOf]; omega
    · obtain rfl : k = fs.length := by omega
      have G : Hid (R = false) := hid (by
        rw [HR2.out, List.any_eq_false]
        intro t ht
        obtain ⟨j, hj⟩ := List.getElem?_of_mem ht
        have := HAL.out j t (List.getElem?_eq_some_iff.1 hj).1 hj
        simpa using this)
      go_wp2
      go_ret
      exact ⟨by rw [G.out]; rfl, HKR.out⟩
end Go.Proofs.YtjebgidddfamlaaDoor

namespace Go.Proofs.YtjebgidddfamlaaDoor
open Go.RowKit Go.Proofs.Heap Go.Proofs.Sch Go.Proofs.Wide

theorem flatz_len {α : Type} {z : Nat} {g : α → List Value} (hg : ∀ x, (g x).length = z) (l : List α) : (l.flatMap g).length = l.length * z := by
  induction l with
  | nil => simp
  | cons a l ih => rw [List.flatMap_cons, List.length_append, hg, ih, List.length_cons, Nat.succ_mul]; omega
/-- A row whose elements are known cell by cell, read whole. -/
theorem rd_rowz {α : Type} {z : Nat} {g : α → List Value} (hz : 0 < z) (hg : ∀ x, (g x).length = z) (h1 : ∀ x, ∀ u ∈ g x, u.oneCell' = true) {w : World} {b off c : Nat} {l : List α}
    (h : ∀ i x, l[i]? = some x → ∀ r u, (g x)[r]? = some u → w.cell? ⟨b, off + i * z + r, none⟩ = some u) : Rd w z (.slice (some ⟨b, off, none⟩) l.length c) l.length (l.flatMap g) := by
  refine ⟨flatz_len hg l, fun u hu => ?_, .inr ⟨_, _, rfl, fun j u hj => ?_⟩⟩
  · obtain ⟨x, _, hx⟩ := List.mem_flatMap.1 hu
    exact h1 x u hx
  · have hlt := (List.getElem?_eq_some_iff.1 hj).1
    rw [flatz_len hg] at hlt
    have hi : j / z < l.length := Nat.div_lt_of_lt_mul (by rw [Nat.mul_comm]; exact hlt)
    have hr : j % z < z := Nat.mod_lt _ hz
    have hd : j / z * z + j % z = j := by rw [Nat.mul_comm]; exact Nat.div_add_mod j z
    obtain ⟨x, hx⟩ : ∃ x, l[j / z]? = some x := ⟨l[j / z], by simp [hi]⟩
    have hu := flatz_at hg l (j / z) (j % z) x hx hr
    rw [hd, hj] at hu
    have := h (j / z) x hx (j % z) u hu.symm
    have hadd : (⟨b, off, none⟩ : Addr).add j = ⟨b, off + j, none⟩ := by unfold Addr.add; split <;> simp_all
    rw [hadd]
    rw [Nat.add_assoc, hd] at this
    exact this
theorem icl_oneX (x : Ins) : ∀ u ∈ icl x, u.oneCell' = true := by
  intro u hu; simp [icl] at hu; rcases hu with rfl | rfl | rfl | rfl | rfl | rfl <;> rfl
theorem wcl_oneX (x : WI) : ∀ u ∈ wcl x, u.oneCell' = true := by
  intro u hu; simp [wcl] at hu; rcases hu with rfl | rfl | rfl <;> rfl
theorem rd_noneX {w : World} {p : Option Addr} {c z : Nat} (hp : p = none → c = 0) : Rd w z (.slice p 0 c) 0 [] := by
  cases p with
  | none => obtain rfl := hp rfl; exact rd_nil w z
  | some a => exact ⟨by simp, by simp, .inr ⟨a, c, rfl, by simp⟩⟩
theorem rd_ip {w : World} {B : Nat} {p : Option Addr} {c : Nat} {l : List Ins} (h : IP w B p l) (hp : p = none → c = 0) : Rd w 6 (.slice p l.length c) l.length (l.flatMap icl) := by
  rcases h with rfl | ⟨b, off, rfl, hb, hc⟩
  · exact rd_noneX hp
  · refine rd_rowz (by omega) icl_len icl_oneX fun i x hx r u hu => ?_
    have h1 := hc i x hx
    match r, hu with
    | 0, hu => injection hu with hu; subst hu; exact h1.1
    | 1, hu => injection hu with hu; subst hu; exact h1.2.1
    | 2, hu => injection hu with hu; subst hu; exact h1.2.2.1
    | 3, hu => injection hu with hu; subst hu; exact h1.2.2.2.1
    | 4, hu => injection hu with hu; subst hu; exact h1.2.2.2.2.1
    | 5, hu => injection hu with hu; subst hu; exact h1.2.2.2.2.2
    | _ + 6, hu => simp [icl] at hu
theorem rd_xp {w : World} {B : Nat} {p : Option Addr} {c : Nat} {l : List WI} (h : XP w B p l) (hp : p = none → c = 0) : Rd w 3 (.slice p l.length c) l.length (l.flatMap wcl) := by
  rcases h with rfl | ⟨b, off, rfl, hb, hc⟩
  · exact rd_noneX hp
  · refine rd_rowz (by omega) wcl_len wcl_oneX fun i x hx r u hu => ?_
    have h1 := hc i x hx
    match r, hu with
    | 0, hu => injection hu with hu; subst hu; exact h1.1
    | 1, hu => injection hu with hu; subst hu; exact h1.2.1
    | 2, hu => injection hu with hu; subst hu; exact h1.2.2
    | _ + 3, hu => simp [wcl] at hu
end Go.Proofs.YtjebgidddfamlaaDoor

namespace Go.Proofs.YtjebgidddfamlaaDoor
open Go.RowKit Go.Proofs.Heap Go.Proofs.Sch Go.Proofs.Wide

theorem eql_same (x : WI) (w : World) : (binOp .eql 34 (WV x) (WV x)).run Tryd.prog w = .ok (.bool true) w := by
  rw [eql_wi]; simp
theorem join_op {un d : Nat} (h : un % 5 = d) : wrap64 (5 + wrap64 ((un : Int).tmod 5)) = 5 + (d : Int) ∧ (un : Int).tmod 5 = (d : Int) := by
  have e1 : (un : Int).tmod 5 = (d : Int) := by rw [Int.tmod_eq_emod_of_nonneg (by omega)]; omega
  refine ⟨?_, e1⟩
  rw [e1]
  rcases (show d = 0 ∨ d = 1 ∨ d = 2 ∨ d = 3 ∨ d = 4 by omega) with rfl | rfl | rfl | rfl | rfl <;> decide +kernel
abbrev joinI (d : Nat) : Ins := ⟨5 + (d : Int), 0, 0, zW⟩

set_option maxRecDepth 20000 in
set_option maxHeartbeats 32000000 in
theorem ex_joins (la : List Ins) (pa : Option Addr) (ca : Nat) (lb : List Ins) (pb : Option Addr) (cb : Nat) (op : Int) (fs : List (List WI)) (q : Option Addr) (qc : Nat) (pl : Int) (w : World)
    (hfa : ∀ x ∈ la, x.k.fit) (hfb : ∀ x ∈ lb, x.k.fit) (hfs : FitF fs) (hpl : pl < 9223372036854775808) (ha : IP w w.heap.size pa la) (hb : IP w w.heap.size pb lb) (hna : pa = none → ca = 0) (hnb : pb = none → cb = 0) (hq : YP w w.heap.size q fs) :
    Calls Tryd.prog 5 #[.slice pa la.length ca, .slice pb lb.length cb, .int .i64 op, .slice q fs.length qc, .int .i64 pl] w fun r w' => r = .returned (.bool true) ∧ Keep (fun _ => False) w w' := by
  obtain ⟨i0, hi0, hz0, hz1, hz2⟩ := info_parts' info_insD
  have HXA := hid hfa; have HXB := hid hfb; have HFS := hid hfs; have HPL := hid hpl; have HNA := hid hna; have HNB := hid hnb
  have HFA := hid (fun (wy : World) (hk : Keep (fun _ => False) w wy) => IP.mono (IP.low ha (Low.keep0 hk)) hk.size)
  have HFB := hid (fun (wy : World) (hk : Keep (fun _ => False) w wy) => IP.mono (IP.low hb (Low.keep0 hk)) hk.size)
  have HY := hid (fun (wy : World) (hk : Keep (fun _ => False) w wy) => YP.mono (YP.low hq (Low.keep0 hk)) hk.size)
  clear hfa hfb hfs hpl ha hb hq hna hnb
  obtain ⟨d, hd⟩ : ∃ d, u64N op % 5 = d := ⟨_, rfl⟩
  have hd5 : d < 5 := by omega
  have HU : Hid (IntKind.u64.wrap op = (u64N op : Int)) := hid (u64N_eq op)
  have HUL := hid (u64N_lt op)
  generalize u64N op = un at *
  have HDE := hid hd; have HD5 := hid hd5
  clear hd hd5
  go_enter Tryd.func5, Tryd.ntmps5
  go_wp2_with fail
  refine (ex_awake w).mono ?_
  rintro r w1 ⟨rfl, hk⟩
  have HK1 := hid hk
  clear hk
  by_cases h1 : 30 < la.length
  · have g1 : decide ((30 : Int) < (la.length : Int)) = true := decide_eq_true (by omega)
    have g2 : decide (30 < la.length) = true := decide_eq_true h1
    clear h1
    go_wp2
    go_ret
    exact ⟨rfl, HK1.out⟩
  have g1 : decide ((30 : Int) < (la.length : Int)) = false := decide_eq_false (by omega)
  have g2 : decide (30 < la.length) = false := decide_eq_false h1
  by_cases h2 : 30 < lb.length
  · have g3 : decide ((30 : Int) < (lb.length : Int)) = true := decide_eq_true (by omega)
    have g4 : decide (30 < lb.length) = true := decide_eq_true h2
    clear h1 h2
    go_wp2
    go_ret
    exact ⟨rfl, HK1.out⟩
  have g3 : decide ((30 : Int) < (lb.length : Int)) = false := decide_eq_false (by omega)
  have g4 : decide (30 < lb.length) = false := decide_eq_false h2
  have HLA : Hid (la.length ≤ 30) := hid (by omega); have HLB : Hid (lb.length ≤ 30) := hid (by omega)
  clear h1 h2
  have HGR : Hid (Calls Tryd.prog 7 #[.slice none 0 0, .slice q fs.length qc] w1 fun r w' => r = .returned (.bool (greatX [] fs)) ∧ Keep (fun _ => False) w1 w') := hid (ex_great [] none 0 fs q qc w1 (HY.out _ HK1.out))
  go_wp2_with fail
  refine HGR.out.mono ?_
  rintro r w2 ⟨rfl, hk⟩
  have HK2 := hid (HK1.out.trans hk)
  clear hk HGR g1 g2 g3 g4
  cases ga : greatX [] fs
  rotate_left
  · go_wp2
    go_ret
    exact ⟨rfl, HK2.out⟩
  clear ga
  go_wp2_with fail
  refine (expr_check la pa ca w2 HXA.out (HFA.out _ HK2.out)).mono ?_
  rintro r w3 ⟨rfl, hk⟩
  have HK3 := hid (HK2.out.trans hk)
  clear hk
  by_cases hza : exprC la = 0
  rotate_left
  · obtain ⟨C, hC⟩ : ∃ C, exprC la = C := ⟨_, rfl⟩
    rw [hC] at hza ⊢
    have g1 : ((C : Int) != 0) = true := by rw [bne_iff_ne]; omega
    have g2 : (C != 0) = true := by rw [bne_iff_ne]; exact hza
    clear hC hza
    go_wp2
    go_ret
    exact ⟨rfl, HK3.out⟩
  have HZA := hid hza
  rw [hza]
  clear hza
  go_wp2_with fail
  refine (expr_check lb pb cb w3 HXB.out (HFB.out _ HK3.out)).mono ?_
  rintro r w4 ⟨rfl, hk⟩
  have HK4 := hid (HK3.out.trans hk)
  clear hk
  by_cases hzb : exprC lb = 0
  rotate_left
  · obtain ⟨C, hC⟩ : ∃ C, exprC lb = C := ⟨_, rfl⟩
    rw [hC] at hzb ⊢
    have g1 : ((C : Int) != 0) = true := by rw [bne_iff_ne]; omega
    have g2 : (C != 0) = true := by rw [bne_iff_ne]; exact hzb
    clear hC hzb
    go_wp2
    go_ret
    exact ⟨rfl, HK4.out⟩
  have HZB := hid hzb
  rw [hzb]
  clear hzb
  have HNW := hid (fun (hc : exprC (la ++ lb ++ [joinI d]) = 0) => evalW_join (fs := fs) HFS.out (pl := pl) HPL.out (a := la) (b := lb) (y := joinI d) HXA.out HXB.out ⟨by show (5 : Int) ≤ 5 + (d : Int); omega, by show 5 + (d : Int) ≤ 9; have := HD5.out; omega⟩ HZA.out HZB.out hc)
  have HVA := hid (evalW_fit HFS.out HPL.out HXA.out)
  have HVB := hid (evalW_fit HFS.out HPL.out HXB.out)
  have HCA := hid (fun wy hk => expr_eval la pa ca fs q qc pl wy HXA.out HFS.out HPL.out (HFA.out wy hk) (HY.out wy hk))
  have HCB := hid (fun wy hk => expr_eval lb pb cb fs q qc pl wy HXB.out HFS.out HPL.out (HFB.out wy hk) (HY.out wy hk))
  obtain ⟨xa, ea, hea⟩ : ∃ x e, evalW fs pl la = (x, e) := ⟨_, _, rfl⟩
  obtain ⟨xb, eb, heb⟩ : ∃ x e, evalW fs pl lb = (x, e) := ⟨_, _, rfl⟩
  rw [hea] at HCA HNW HVA
  rw [heb] at HCB HNW HVB
  clear hea heb
  obtain ⟨w5, hw5, hb5, hs5, hk5⟩ := box1 w4 #[.slice q fs.length qc, .int .i64 pl] 40
  have HE5 := hid hb5; have HK5 := hid (HK4.out.trans hk5)
  clear hb5 hs5 hk5
  go_upto_region 6 with fail
  rw [← hw5]
  clear hw5
  generalize w4.heap.size = nb at *
  have e0 := cell_of HE5.out (i := 0) (by rfl)
  have e1 := cell_of HE5.out (i := 1) (by rfl)
  go_wp2_with fail
  refine (HCA.out w5 HK5.out).mono ?_
  rintro r w6 ⟨rfl, hk⟩
  have HK6 := hid (HK5.out.trans hk); have HE6 := hid (hk.get HE5.out id)
  clear hk e0 e1 HCA
  obtain ⟨w7, hw7, hb7, hs7, hk7⟩ := box1 w6 (WC xa) 34
  have HA7 := hid hb7; have HE7 := hid (hk7.get HE6.out id); have HK7 := hid (HK6.out.trans hk7)
  clear hb7 hs7 hk7
  go_upto_region 7 with fail
  rw [← hw7]
  clear hw7
  generalize w6.heap.size = ab at *
  have e0 := cell_of HE7.out (i := 0) (by rfl)
  have e1 := cell_of HE7.out (i := 1) (by rfl)
  go_wp2_with fail
  refine (HCB.out w7 HK7.out).mono ?_
  rintro r w8 ⟨rfl, hk⟩
  have HK8 := hid (HK7.out.trans hk); have HE8 := hid (hk.get HE7.out id); have HA8 := hid (hk.get HA7.out id)
  clear hk e0 e1 HCB
  obtain ⟨w9, hw9, hb9, hs9, hk9⟩ := box1 w8 (WC xb) 34
  have HB9 := hid hb9; have HA9 := hid (hk9.get HA8.out id); have HE9 := hid (hk9.get HE8.out id); have HK9 := hid (HK8.out.trans hk9)
  clear hb9 hs9 hk9
  go_upto_region 8 with fail
  rw [← hw9]
  clear hw9
  generalize w8.heap.size = bb at *
  have HOW : Hid ((w9.alloc (.cells #[] 36)).ownsRow w9.heap.size 36 6 (.slice (some ⟨w9.heap.size, 0, none⟩) 0 0) 0 []) := hid (World.ownsRow_made w9 #[] 0 (Nat.le_refl _) (by unfold maxLen; omega) (by simp))
  have HKX := hid (HK9.out.alloc (.cells #[] 36))
  have HK9X := hid ((Keep.refl (fun _ => False) w9).alloc (.cells #[] 36))
  have hla := HLA.out; have hlb := HLB.out
  have HRA := hid (rd_ip (HFA.out _ HKX.out) HNA.out)
  obtain ⟨jo, hjo⟩ : ∃ jo : Int, wrap64 (5 + wrap64 ((IntKind.u64.wrap op).tmod 5)) = jo := ⟨_, rfl⟩
  have HJO : Hid (jo = 5 + (d : Int)) := hid (hjo.symm.trans (by rw [HU.out]; exact (join_op HDE.out).1))
  go_wp2_with (at_builtin; first
    | (refine wpList_append_rd rfl (.tmp 60) (.tmp 61) _ rfl w9.heap.size _ i0 _ 6 48 Tryd.underlying22 hi0 hz0 hz1 hz2 rfl (by decide) _ 0 _ (by rfl) HOW.out _ la.length _ (by rfl) HRA.out (by unfold maxLen; omega) (by omega) HK9X.out.size ?_; intro v' w10 hown hgrow hat hn5; rw [Nat.zero_add, List.nil_append] at hown; obtain ⟨vq, vd, rfl⟩ := owns_val hown; have HO10 := hid hown; have HK10 := hid (Keep.grown HK9X.out hgrow (fun k hk => .inl (HOW.out.lt k hk).1)); clear hown hgrow hat hn5; have HRB := hid (rd_ip (HFB.out _ (HK9.out.trans HK10.out)) HNB.out))
    | (refine wpList_append_rd rfl (.tmp 62) (.tmp 63) _ rfl w9.heap.size _ i0 _ 6 48 Tryd.underlying22 hi0 hz0 hz1 hz2 rfl (by decide) _ la.length _ (by rfl) HO10.out _ lb.length _ (by rfl) HRB.out (by unfold maxLen; omega) (by omega) HK10.out.size ?_; intro v' w11 hown hgrow hat hn5; obtain ⟨vr, ve, rfl⟩ := owns_val hown; have HO11 := hid hown; have HK11 := hid (Keep.grown HK10.out hgrow (fun k hk => .inl (HO10.out.lt k hk).1)); clear hown hgrow hat hn5)
    | (refine wpList_append_rd rfl (.tmp 64) (.tmp 71) _ rfl w9.heap.size _ i0 _ 6 48 Tryd.underlying22 hi0 hz0 hz1 hz2 rfl (by decide) _ (la.length + lb.length) _ (by rfl) (HO11.out.alloc _) _ 1 [.int .i64 jo, .int .i64 0, .int .i64 0, .bool false, .int .u64 0, .int .u64 0] (by rfl) (rd_block (heap_alloc_new w11 _) (by rfl) (by simp [Value.oneCell'])) (by unfold maxLen; omega) (by omega) (HK11.out.alloc _).size ?_; intro v' w12 hown hgrow hat hn5; obtain ⟨vs, ve2, rfl⟩ := owns_val hown; have HO12 := hid hown; have HK12 := hid (Keep.grown (HK11.out.alloc _) hgrow (fun k hk => .inl (HO11.out.lt k hk).1)); clear hown hgrow hat hn5)
    | fail)
  clear hjo
  have hlen : (la ++ lb ++ [joinI d]).length = la.length + lb.length + 1 := by simp; omega
  have HIJ : Hid (IP w12 w12.heap.size vs (la ++ lb ++ [joinI d])) := hid (ip_own hlen (by
    have h := HO12.out
    have e : [Value.int .i64 jo, .int .i64 0, .int .i64 0, .bool false, .int .u64 0, .int .u64 0] = icl (joinI d) := by rw [HJO.out]; rfl
    rw [e] at h
    simpa [List.flatMap_append] using h))
  have HXJ : Hid (∀ x ∈ la ++ lb ++ [joinI d], x.k.fit) := hid (fun x hx => by
    rcases List.mem_append.1 hx with h | h
    · rcases List.mem_append.1 h with h | h
      · exact HXA.out x h
      · exact HXB.out x h
    · rw [List.mem_singleton.1 h]; exact zW_fit)
  have HKJ := hid (HK9.out.trans HK12.out)
  have HE12 := hid (HK12.out.get HE9.out id); have HA12 := hid (HK12.out.get HA9.out id); have HB12 := hid (HK12.out.get HB9.out id)
  have HCJ := hid (expr_check (la ++ lb ++ [joinI d]) vs ve2 w12 HXJ.out HIJ.out)
  have HEJ := hid (fun wy (hk : Keep (fun _ => False) w12 wy) => expr_eval (la ++ lb ++ [joinI d]) vs ve2 fs q qc pl wy HXJ.out HFS.out HPL.out (IP.mono (IP.low HIJ.out (Low.keep0 hk)) hk.size) (HY.out wy (HKJ.out.trans hk)))
  rw [hlen] at HCJ HEJ
  clear hlen HO10 HO11 HO12 HK10 HK11 HRA HRB HOW HKX HK9X
  refine HCJ.out.mono ?_
  rintro r w13 ⟨rfl, hk⟩
  have HK13 := hid (HKJ.out.trans hk); have HKC := hid hk
  have HE13 := hid (hk.get HE12.out id); have HA13 := hid (hk.get HA12.out id); have HB13 := hid (hk.get HB12.out id)
  clear hk HCJ
  by_cases hzj : exprC (la ++ lb ++ [joinI d]) = 0
  rotate_left
  · obtain ⟨C, hC⟩ : ∃ C, exprC (la ++ lb ++ [joinI d]) = C := ⟨_, rfl⟩
    rw [hC] at hzj ⊢
    have g1 : ((C : Int) != 0) = true := by rw [bne_iff_ne]; omega
    have g2 : (C != 0) = true := by rw [bne_iff_ne]; exact hzj
    clear hC hzj hla hlb
    go_wp2
    go_ret
    exact ⟨rfl, HK13.out⟩
  have HJW := hid (HNW.out hzj)
  have HVJ := hid (evalW_fit HFS.out HPL.out HXJ.out)
  rw [hzj]
  clear hzj HNW hla hlb
  obtain ⟨xj, ej, hej⟩ : ∃ x e, evalW fs pl (la ++ lb ++ [joinI d]) = (x, e) := ⟨_, _, rfl⟩
  rw [hej] at HEJ HJW HVJ
  clear hej
  have e0 := cell_of HE13.out (i := 0) (by rfl)
  have e1 := cell_of HE13.out (i := 1) (by rfl)
  go_wp2_with fail
  refine (HEJ.out w13 HKC.out).mono ?_
  rintro r w14 ⟨rfl, hk⟩
  have HK14 := hid (HK13.out.trans hk)
  have HA14 := hid (hk.get HA13.out id); have HB14 := hid (hk.get HB13.out id)
  clear hk e0 e1 HEJ
  obtain ⟨w15, hw15, hb15, hs15, hk15⟩ := box1 w14 (WC xj) 34
  have HJ15 := hid hb15; have HA15 := hid (hk15.get HA14.out id); have HB15 := hid (hk15.get HB14.out id); have HK15 := hid (HK14.out.trans hk15)
  clear hb15 hs15 hk15
  go_upto_region 12 with fail
  rw [← hw15]
  clear hw15
  generalize w14.heap.size = jb at *
  have HEQ0 : Hid (∀ wy, (binOp .eql 34 (.agg #[.bool false, .int .u64 0, .int .u64 0]) (.agg #[.bool false, .int .u64 0, .int .u64 0])).run Tryd.prog wy = .ok (.bool true) wy) := hid (fun wy => by kernel_rfl)

  by_cases hea : ea = 0
  rotate_left
  · have g3 : ((ea : Int) != 0) = true := by rw [bne_iff_ne]; omega
    have g4 : (ea != 0) = true := by rw [bne_iff_ne]; exact hea
    have hz1 : ej ≠ 0 := by have h := HJW.out; rw [if_neg (fun hh => hea hh.1)] at h; exact h.1
    have hz2 : xj = zW := by have h := HJW.out; rw [if_neg (fun hh => hea hh.1)] at h; exact h.2
    subst hz2
    have g1 : ((ej : Int) != 0) = true := by rw [bne_iff_ne]; omega
    have g2 : (ej != 0) = true := by rw [bne_iff_ne]; exact hz1
    have j0 : w15.cell? ⟨jb, 0, none⟩ = some (.bool false) := cell_of HJ15.out (by rfl)
    have j1 : w15.cell? ⟨jb, 1, none⟩ = some (.int .u64 0) := cell_of HJ15.out (by rfl)
    have j2 : w15.cell? ⟨jb, 2, none⟩ = some (.int .u64 0) := cell_of HJ15.out (by rfl)
    have heq := HEQ0.out
    clear hz1 HJW
    go_wp2
    go_ret
    exact ⟨rfl, HK15.out⟩
  subst hea
  by_cases heb : eb = 0
  rotate_left
  · have g3 : ((eb : Int) != 0) = true := by rw [bne_iff_ne]; omega
    have g4 : (eb != 0) = true := by rw [bne_iff_ne]; exact heb
    have hz1 : ej ≠ 0 := by have h := HJW.out; rw [if_neg (fun hh => heb hh.2)] at h; exact h.1
    have hz2 : xj = zW := by have h := HJW.out; rw [if_neg (fun hh => heb hh.2)] at h; exact h.2
    subst hz2
    have g1 : ((ej : Int) != 0) = true := by rw [bne_iff_ne]; omega
    have g2 : (ej != 0) = true := by rw [bne_iff_ne]; exact hz1
    have j0 : w15.cell? ⟨jb, 0, none⟩ = some (.bool false) := cell_of HJ15.out (by rfl)
    have j1 : w15.cell? ⟨jb, 1, none⟩ = some (.int .u64 0) := cell_of HJ15.out (by rfl)
    have j2 : w15.cell? ⟨jb, 2, none⟩ = some (.int .u64 0) := cell_of HJ15.out (by rfl)
    have heq := HEQ0.out
    clear hz1 HJW
    go_wp2
    go_ret
    exact ⟨rfl, HK15.out⟩
  subst heb
  have HW : Hid ((xj, ej) = opW (5 + (d : Int)) xa xb zW) := hid (by have h := HJW.out; rw [if_pos ⟨rfl, rfl⟩] at h; exact h)
  have HMD : Hid ((IntKind.u64.wrap op).tmod 5 = (d : Int)) := hid (by rw [HU.out]; exact (join_op HDE.out).2)
  have HEQ : Hid (∀ (z : WI) wy, (binOp .eql 34 (WV z) (WV z)).run Tryd.prog wy = .ok (.bool true) wy) := hid eql_same
  clear HJW HEQ0
  have a0 := cell_of HA15.out (i := 0) (by rfl)
  have a1 := cell_of HA15.out (i := 1) (by rfl)
  have a2 := cell_of HA15.out (i := 2) (by rfl)
  have b0 := cell_of HB15.out (i := 0) (by rfl)
  have b1 := cell_of HB15.out (i := 1) (by rfl)
  have b2 := cell_of HB15.out (i := 2) (by rfl)
  have HAD := hid (w_addU xa xb HVA.out HVB.out w15)
  obtain ⟨ya, yb, hyy⟩ : ∃ ya yb, addW xa xb = (ya, yb) := ⟨_, _, rfl⟩
  rw [hyy] at HAD
  have HYY := hid hyy
  clear hyy
  go_wp2_with fail
  refine HAD.out.mono ?_
  rintro r w16 ⟨rfl, hk⟩
  have HK16 := hid (HK15.out.trans hk)
  have HA16 := hid (hk.get HA15.out id); have HB16 := hid (hk.get HB15.out id); have HJ16 := hid (hk.get HJ15.out id)
  clear hk a0 a1 a2 b0 b1 b2 HAD
  obtain ⟨w17, hw17, hb17, hs17, hk17⟩ := box1 w16 (WC ya) 34
  have HT17 := hid hb17; have HJ17 := hid (hk17.get HJ16.out id); have HA17 := hid (hk17.get HA16.out id); have HB17 := hid (hk17.get HB16.out id); have HK17 := hid (HK16.out.trans hk17)
  have HTB : Hid (w.heap.size ≤ w16.heap.size ∧ jb ≠ w16.heap.size) := hid ⟨HK16.out.size, fun e => by have := lt_of_heap HJ16.out; omega⟩
  clear hb17 hs17 hk17
  go_upto_region 15 with fail
  rw [← hw17]
  clear hw17
  generalize w16.heap.size = tb at *
  have hd5 := HD5.out
  rcases (show d = 0 ∨ d = 1 ∨ d = 2 ∨ d = 3 ∨ d = 4 by omega) with rfl | rfl | rfl | rfl | rfl
  · as_aux_lemma =>
    have hop : opW (5 + ((0 : Nat) : Int)) xa xb zW = addW xa xb := by unfold opW; simp
    have hmd : (IntKind.u64.wrap op).tmod 5 = 0 := HMD.out
    have hyj : ya = xj ∧ yb = ej := by have h := HW.out; rw [hop, HYY.out] at h; injection h with h1 h2; exact ⟨h1.symm, h2.symm⟩
    obtain ⟨rfl, rfl⟩ := hyj
    have t0 := cell_of HT17.out (i := 0) (by rfl)
    have t1 := cell_of HT17.out (i := 1) (by rfl)
    have t2 := cell_of HT17.out (i := 2) (by rfl)
    have j0 := cell_of HJ17.out (i := 0) (by rfl)
    have j1 := cell_of HJ17.out (i := 1) (by rfl)
    have j2 := cell_of HJ17.out (i := 2) (by rfl)
    have heq := HEQ.out ya w17
    clear hop
    go_wp2
    go_ret
    exact ⟨rfl, HK17.out⟩
  · as_aux_lemma =>
    have hop : opW (5 + ((1 : Nat) : Int)) xa xb zW = subW xa xb := by unfold opW; simp
    have hmd : (IntKind.u64.wrap op).tmod 5 = 1 := HMD.out
    have HOC : Hid (Calls Tryd.prog 15 #[WV xa, WV xb] w17 fun r w' => r = .returned (.tuple #[WV xj, iV ej]) ∧ Keep (fun _ => False) w17 w') := hid (by
      have h := w_subU xa xb HVA.out HVB.out w17
      rw [← hop, ← HW.out] at h
      exact h)
    clear hop
    have a0 := cell_of HA17.out (i := 0) (by rfl)
    have a1 := cell_of HA17.out (i := 1) (by rfl)
    have a2 := cell_of HA17.out (i := 2) (by rfl)
    have b0 := cell_of HB17.out (i := 0) (by rfl)
    have b1 := cell_of HB17.out (i := 1) (by rfl)
    have b2 := cell_of HB17.out (i := 2) (by rfl)
    go_wp2_with fail
    refine HOC.out.mono ?_
    rintro r w18 ⟨rfl, hk⟩
    have HK18 := hid (HK17.out.trans hk); have HT18 := hid (hk.get HT17.out id); have HJ18 := hid (hk.get HJ17.out id)
    clear hk a0 a1 a2 b0 b1 b2 hmd
    obtain ⟨w19, hw19⟩ : ∃ w19, (((w18.setCell ⟨tb, 0, none⟩ (.bool xj.neg)).setCell ⟨tb, 1, none⟩ (.int .u64 (xj.hi : Int))).setCell ⟨tb, 2, none⟩ (.int .u64 (xj.lo : Int))) = w19 := ⟨_, rfl⟩
    have HT19 : Hid (w19.heap[tb]? = some (.cells (WC xj) 34 (0, 0))) := hid (by rw [← hw19]; exact cells3 _ _ _ HT18.out)
    have HJ19 : Hid (w19.heap[jb]? = some (.cells (WC xj) 34 (0, 0))) := hid (by
      have hne := HTB.out.2
      rw [← hw19, hsc_ne _ hne, hsc_ne _ hne, hsc_ne _ hne]; exact HJ18.out)
    have HK19 : Hid (Keep (fun _ => False) w w19) := hid (by
      rw [← hw19]
      exact ((HK18.out.setCell_new (p := ⟨tb, 0, none⟩) HTB.out.1 _).setCell_new (p := ⟨tb, 1, none⟩) HTB.out.1 _).setCell_new (p := ⟨tb, 2, none⟩) HTB.out.1 _)
    have f0 := free_of HT18.out 0
    have f1 := free_of HT18.out 1
    have f2 := free_of HT18.out 2
    have c0 := cell_of HT18.out (i := 0) (by rfl)
    have c1 := cell_of HT18.out (i := 1) (by rfl)
    have c2 := cell_of HT18.out (i := 2) (by rfl)
    go_upto_region 24 with fail
    (try rw [hw19])
    clear hw19 f0 f1 f2 c0 c1 c2
    have t0 := cell_of HT19.out (i := 0) (by rfl)
    have t1 := cell_of HT19.out (i := 1) (by rfl)
    have t2 := cell_of HT19.out (i := 2) (by rfl)
    have j0 := cell_of HJ19.out (i := 0) (by rfl)
    have j1 := cell_of HJ19.out (i := 1) (by rfl)
    have j2 := cell_of HJ19.out (i := 2) (by rfl)
    have heq := HEQ.out xj w19
    go_wp2
    go_ret
    exact ⟨rfl, HK19.out⟩
  · as_aux_lemma =>
    have hop : opW (5 + ((2 : Nat) : Int)) xa xb zW = mulW xa xb := by unfold opW; simp
    have hmd : (IntKind.u64.wrap op).tmod 5 = 2 := HMD.out
    have HOC : Hid (Calls Tryd.prog 16 #[WV xa, WV xb] w17 fun r w' => r = .returned (.tuple #[WV xj, iV ej]) ∧ Keep (fun _ => False) w17 w') := hid (by
      have h := w_mulU xa xb HVA.out HVB.out w17
      rw [← hop, ← HW.out] at h
      exact h)
    clear hop
    have a0 := cell_of HA17.out (i := 0) (by rfl)
    have a1 := cell_of HA17.out (i := 1) (by rfl)
    have a2 := cell_of HA17.out (i := 2) (by rfl)
    have b0 := cell_of HB17.out (i := 0) (by rfl)
    have b1 := cell_of HB17.out (i := 1) (by rfl)
    have b2 := cell_of HB17.out (i := 2) (by rfl)
    go_wp2_with fail
    refine HOC.out.mono ?_
    rintro r w18 ⟨rfl, hk⟩
    have HK18 := hid (HK17.out.trans hk); have HT18 := hid (hk.get HT17.out id); have HJ18 := hid (hk.get HJ17.out id)
    clear hk a0 a1 a2 b0 b1 b2 hmd
    obtain ⟨w19, hw19⟩ : ∃ w19, (((w18.setCell ⟨tb, 0, none⟩ (.bool xj.neg)).setCell ⟨tb, 1, none⟩ (.int .u64 (xj.hi : Int))).setCell ⟨tb, 2, none⟩ (.int .u64 (xj.lo : Int))) = w19 := ⟨_, rfl⟩
    have HT19 : Hid (w19.heap[tb]? = some (.cells (WC xj) 34 (0, 0))) := hid (by rw [← hw19]; exact cells3 _ _ _ HT18.out)
    have HJ19 : Hid (w19.heap[jb]? = some (.cells (WC xj) 34 (0, 0))) := hid (by
      have hne := HTB.out.2
      rw [← hw19, hsc_ne _ hne, hsc_ne _ hne, hsc_ne _ hne]; exact HJ18.out)
    have HK19 : Hid (Keep (fun _ => False) w w19) := hid (by
      rw [← hw19]
      exact ((HK18.out.setCell_new (p := ⟨tb, 0, none⟩) HTB.out.1 _).setCell_new (p := ⟨tb, 1, none⟩) HTB.out.1 _).setCell_new (p := ⟨tb, 2, none⟩) HTB.out.1 _)
    have f0 := free_of HT18.out 0
    have f1 := free_of HT18.out 1
    have f2 := free_of HT18.out 2
    have c0 := cell_of HT18.out (i := 0) (by rfl)
    have c1 := cell_of HT18.out (i := 1) (by rfl)
    have c2 := cell_of HT18.out (i := 2) (by rfl)
    go_upto_region 24 with fail
    (try rw [hw19])
    clear hw19 f0 f1 f2 c0 c1 c2
    have t0 := cell_of HT19.out (i := 0) (by rfl)
    have t1 := cell_of HT19.out (i := 1) (by rfl)
    have t2 := cell_of HT19.out (i := 2) (by rfl)
    have j0 := cell_of HJ19.out (i := 0) (by rfl)
    have j1 := cell_of HJ19.out (i := 1) (by rfl)
    have j2 := cell_of HJ19.out (i := 2) (by rfl)
    have heq := HEQ.out xj w19
    go_wp2
    go_ret
    exact ⟨rfl, HK19.out⟩
  · as_aux_lemma =>
    have hop : opW (5 + ((3 : Nat) : Int)) xa xb zW = quoW xa xb := by unfold opW; simp
    have hmd : (IntKind.u64.wrap op).tmod 5 = 3 := HMD.out
    have HOC : Hid (Calls Tryd.prog 17 #[WV xa, WV xb] w17 fun r w' => r = .returned (.tuple #[WV xj, iV ej]) ∧ Keep (fun _ => False) w17 w') := hid (by
      have h := w_quoU xa xb HVA.out HVB.out w17
      rw [← hop, ← HW.out] at h
      exact h)
    clear hop
    have a0 := cell_of HA17.out (i := 0) (by rfl)
    have a1 := cell_of HA17.out (i := 1) (by rfl)
    have a2 := cell_of HA17.out (i := 2) (by rfl)
    have b0 := cell_of HB17.out (i := 0) (by rfl)
    have b1 := cell_of HB17.out (i := 1) (by rfl)
    have b2 := cell_of HB17.out (i := 2) (by rfl)
    go_wp2_with fail
    refine HOC.out.mono ?_
    rintro r w18 ⟨rfl, hk⟩
    have HK18 := hid (HK17.out.trans hk); have HT18 := hid (hk.get HT17.out id); have HJ18 := hid (hk.get HJ17.out id)
    clear hk a0 a1 a2 b0 b1 b2 hmd
    obtain ⟨w19, hw19⟩ : ∃ w19, (((w18.setCell ⟨tb, 0, none⟩ (.bool xj.neg)).setCell ⟨tb, 1, none⟩ (.int .u64 (xj.hi : Int))).setCell ⟨tb, 2, none⟩ (.int .u64 (xj.lo : Int))) = w19 := ⟨_, rfl⟩
    have HT19 : Hid (w19.heap[tb]? = some (.cells (WC xj) 34 (0, 0))) := hid (by rw [← hw19]; exact cells3 _ _ _ HT18.out)
    have HJ19 : Hid (w19.heap[jb]? = some (.cells (WC xj) 34 (0, 0))) := hid (by
      have hne := HTB.out.2
      rw [← hw19, hsc_ne _ hne, hsc_ne _ hne, hsc_ne _ hne]; exact HJ18.out)
    have HK19 : Hid (Keep (fun _ => False) w w19) := hid (by
      rw [← hw19]
      exact ((HK18.out.setCell_new (p := ⟨tb, 0, none⟩) HTB.out.1 _).setCell_new (p := ⟨tb, 1, none⟩) HTB.out.1 _).setCell_new (p := ⟨tb, 2, none⟩) HTB.out.1 _)
    have f0 := free_of HT18.out 0
    have f1 := free_of HT18.out 1
    have f2 := free_of HT18.out 2
    have c0 := cell_of HT18.out (i := 0) (by rfl)
    have c1 := cell_of HT18.out (i := 1) (by rfl)
    have c2 := cell_of HT18.out (i := 2) (by rfl)
    go_upto_region 24 with fail
    (try rw [hw19])
    clear hw19 f0 f1 f2 c0 c1 c2
    have t0 := cell_of HT19.out (i := 0) (by rfl)
    have t1 := cell_of HT19.out (i := 1) (by rfl)
    have t2 := cell_of HT19.out (i := 2) (by rfl)
    have j0 := cell_of HJ19.out (i := 0) (by rfl)
    have j1 := cell_of HJ19.out (i := 1) (by rfl)
    have j2 := cell_of HJ19.out (i := 2) (by rfl)
    have heq := HEQ.out xj w19
    go_wp2
    go_ret
    exact ⟨rfl, HK19.out⟩
  · as_aux_lemma =>
    have hop : opW (5 + ((4 : Nat) : Int)) xa xb zW = remW xa xb := by unfold opW; simp
    have hmd : (IntKind.u64.wrap op).tmod 5 = 4 := HMD.out
    have HOC : Hid (Calls Tryd.prog 18 #[WV xa, WV xb] w17 fun r w' => r = .returned (.tuple #[WV xj, iV ej]) ∧ Keep (fun _ => False) w17 w') := hid (by
      have h := w_remU xa xb HVA.out HVB.out w17
      rw [← hop, ← HW.out] at h
      exact h)
    clear hop
    have a0 := cell_of HA17.out (i := 0) (by rfl)
    have a1 := cell_of HA17.out (i := 1) (by rfl)
    have a2 := cell_of HA17.out (i := 2) (by rfl)
    have b0 := cell_of HB17.out (i := 0) (by rfl)
    have b1 := cell_of HB17.out (i := 1) (by rfl)
    have b2 := cell_of HB17.out (i := 2) (by rfl)
    go_wp2_with fail
    refine HOC.out.mono ?_
    rintro r w18 ⟨rfl, hk⟩
    have HK18 := hid (HK17.out.trans hk); have HT18 := hid (hk.get HT17.out id); have HJ18 := hid (hk.get HJ17.out id)
    clear hk a0 a1 a2 b0 b1 b2 hmd
    obtain ⟨w19, hw19⟩ : ∃ w19, (((w18.setCell ⟨tb, 0, none⟩ (.bool xj.neg)).setCell ⟨tb, 1, none⟩ (.int .u64 (xj.hi : Int))).setCell ⟨tb, 2, none⟩ (.int .u64 (xj.lo : Int))) = w19 := ⟨_, rfl⟩
    have HT19 : Hid (w19.heap[tb]? = some (.cells (WC xj) 34 (0, 0))) := hid (by rw [← hw19]; exact cells3 _ _ _ HT18.out)
    have HJ19 : Hid (w19.heap[jb]? = some (.cells (WC xj) 34 (0, 0))) := hid (by
      have hne := HTB.out.2
      rw [← hw19, hsc_ne _ hne, hsc_ne _ hne, hsc_ne _ hne]; exact HJ18.out)
    have HK19 : Hid (Keep (fun _ => False) w w19) := hid (by
      rw [← hw19]
      exact ((HK18.out.setCell_new (p := ⟨tb, 0, none⟩) HTB.out.1 _).setCell_new (p := ⟨tb, 1, none⟩) HTB.out.1 _).setCell_new (p := ⟨tb, 2, none⟩) HTB.out.1 _)
    have f0 := free_of HT18.out 0
    have f1 := free_of HT18.out 1
    have f2 := free_of HT18.out 2
    have c0 := cell_of HT18.out (i := 0) (by rfl)
    have c1 := cell_of HT18.out (i := 1) (by rfl)
    have c2 := cell_of HT18.out (i := 2) (by rfl)
    go_upto_region 24 with fail
    (try rw [hw19])
    clear hw19 f0 f1 f2 c0 c1 c2
    have t0 := cell_of HT19.out (i := 0) (by rfl)
    have t1 := cell_of HT19.out (i := 1) (by rfl)
    have t2 := cell_of HT19.out (i := 2) (by rfl)
    have j0 := cell_of HJ19.out (i := 0) (by rfl)
    have j1 := cell_of HJ19.out (i := 1) (by rfl)
    have j2 := cell_of HJ19.out (i := 2) (by rfl)
    have heq := HEQ.out xj w19
    go_wp2
    go_ret
    exact ⟨rfl, HK19.out⟩
end Go.Proofs.YtjebgidddfamlaaDoor

namespace Go.Proofs.YtjebgidddfamlaaDoor
open Go.ChangeShapes Go.WideShapes Go.ChangeAt Go.RowKit Go.Proofs.Heap Go.Proofs.Sch

theorem u64_wf {z : Int} (h : (Lit.int .u64 z).wf = true) : 0 ≤ z ∧ z < 18446744073709551616 := by
  have h : IntKind.u64.min ≤ z ∧ z ≤ IntKind.u64.max := by simpa [Lit.wf] using h
  have h1 : IntKind.u64.min = 0 := by decide
  have h2 : IntKind.u64.max = 18446744073709551615 := by decide
  omega

section
variable {H : Type} {enc : TypeId × Value → H} {W : World}

theorem addr_add (b off i : Nat) : (⟨b, off, none⟩ : Addr).add i = ⟨b, off + i, none⟩ := by unfold Addr.add; split <;> simp_all

/-- A row of things that a law is handed. -/
theorem open_row {α : Type} {z : Nat} {t e : TypeId} (ht : Tryd.prog.underlying t = some (.slice e)) (hsz : Tryd.prog.cellsOf e = z) (at_ : World → Nat → Nat → α → Prop)
    (hel : ∀ (a : Addr) (n : Nat) (cs : List Value) (D : DataW H × List MemPlace), W.cells? 0 a z = some cs → DataW.trod enc Tryd.prog W 0 (fun _ => true) true n e cs = some D → a.spot = none ∧ a.block < W.heap.size ∧ ∃ x : α, at_ W a.block a.off x)
    {fuel : Nat} {cs : List Value} {x : DataW H × List MemPlace} (h : DataW.trod enc Tryd.prog W 0 (fun _ => true) true fuel t cs = some x) :
    ∃ (p : Option Addr) (c : Nat) (l : List α), cs = [.slice p l.length c] ∧ l.length ≤ c ∧ RowP z at_ W W.heap.size p l := by
  rcases Go.Deep.open_slice ht h with ⟨hcs, _⟩ | ⟨a, len, cap, m, n, D, Pl, hcs, _, hl, hm, hz', _, hcell⟩
  · exact ⟨none, 0, [], hcs, Nat.le_refl _, .inl rfl⟩
  · have hmc : m = cap := by simpa using hz'
    subst hmc
    rw [hsz] at hcell
    by_cases hl0 : len = 0
    · subst hl0
      exact ⟨some a, m, [], hcs, Nat.zero_le _, .inl rfl⟩
    · obtain ⟨b, off, spot⟩ := a
      have hblk : spot = none ∧ b < W.heap.size := by
        obtain ⟨cs', hc1, hc2⟩ := hcell 0 (by omega)
        obtain ⟨h1, h2, _⟩ := hel _ _ _ _ hc1 hc2
        refine ⟨?_, by simpa [Addr.add] using h2⟩
        simpa [Addr.add] using h1
      obtain ⟨rfl, hb⟩ := hblk
      have key : ∀ k, k ≤ len → ∃ l : List α, l.length = k ∧ ∀ i y, l[i]? = some y → at_ W b (off + i * z) y := by
        intro k
        induction k with
        | zero => exact fun _ => ⟨[], rfl, fun i y hy => by simp at hy⟩
        | succ k ih =>
          intro hk
          obtain ⟨l, hll, hla⟩ := ih (by omega)
          obtain ⟨cs', hc1, hc2⟩ := hcell k (by omega)
          obtain ⟨_, _, y, hy⟩ := hel _ _ _ _ hc1 hc2
          rw [addr_add] at hy
          refine ⟨l ++ [y], by simp [hll], fun i u hu => ?_⟩
          by_cases hik : i < k
          · rw [List.getElem?_append_left (by omega)] at hu
            exact hla i u hu
          · rw [List.getElem?_append_right (by omega)] at hu
            have : i = k := by
              have := (List.getElem?_eq_some_iff.1 hu).1
              simp at this
              omega
            subst this
            simp [hll] at hu
            subst hu
            exact hy
      obtain ⟨l, hll, hla⟩ := key len (Nat.le_refl _)
      subst hll
      exact ⟨_, m, l, hcs, hl, .inr ⟨b, off, rfl, hb, hla⟩⟩

theorem spot_of {a : Addr} {v : Value} (h : W.cell? (a.add 0) = some v) : a.spot = none ∧ a.block < W.heap.size := by
  obtain ⟨b, off, spot⟩ := a
  have h1 : spot = none := by simpa [Addr.add] using World.cell?_spot h
  subst h1
  rw [addr_add] at h
  exact ⟨rfl, World.block_lt_of_cell? W _ h⟩

end
end Go.Proofs.YtjebgidddfamlaaDoor
