/- What is proved: the sample of the formulas' laws: its answers are the document's. -/
import Derived.Test.YtjebgidddfamlaaDoorMExDecLaw
import Derived.Test.YtjebgidddfamlaaDoorMExEval
import Derived.Test.YtjebgidddfamlaaDoorMExShow
import Derived.Test.YtjebgidddfamlaaDoorMDyn
import Derived.Test.YtjebgidddfamlaaDoorMHeap
import Derived.Test.YtjebgidddfamlaaDoorProg
import Derived.Deep.Slices
import Derived.Deep.Strs
import Derived.ProofKit
import Derived.OpenShut
import Derived.ShutString
import Derived.ChangeOld
import Derived.Below
import Derived.Test.YtjebgidddfamlaaDoorMWide2
import Derived.Lib.SmallJoins
import Derived.WalkKit
namespace Go.Proofs.YtjebgidddfamlaaDoor
open Go.RowKit Go.Proofs.Heap Go.Proofs.Sch Go.Proofs.Wide

section
variable {P : Program} {ops : Array Oper}
theorem quiet_eql_g {Q : Act → Prop} {rest : List Oper} {a : Act} {o : Oper} {w : World} (hgd : Region.wanted o (yielded ops a.tmps) = true) (t u : TypeId) (x y : Operand) (xs ys : Array Value) (b : Bool) (ho : o.op = .binOp .eql t x y u) (hx : a.eval x = .agg xs) (hy : a.eval y = .agg ys)
    (hm : P.eqGuardType P.depth t = false) (hl : (binOp .eql t (.agg xs) (.agg ys)).run P w = .ok (.bool b) w) (h : wpQuiet P ops (fun w' => w' = w) Q rest (a.put o.dst (.bool b))) : wpQuiet P ops (fun w' => w' = w) Q (o :: rest) a := by
  refine BigFrame.wpQuiet_want hgd fun K hK => ⟨.bool b, fun w' hw' => ?_, hK _ h⟩
  subst hw'
  have hg := fun (o1 o2 : Operand) => run_eqGuard_agg (P := P) (w := w') .eql t o1 o2 xs ys hm
  unfold Oper.quietAt execOp
  simp [ho, hx, hy, hl, hg]
  exact ⟨rfl, rfl⟩
end
theorem smp_eqH (w : World) : (binOp .eql 36 (.agg #[.int .i64 3, .int .i64 3, .int .i64 0, .bool false, .int .u64 0, .int .u64 0]) (.agg #[.int .i64 3, .int .i64 3, .int .i64 0, .bool false, .int .u64 0, .int .u64 0])).run Tryd.prog w = .ok (.bool true) w := by kernel_rfl
theorem smp_eqI (w : World) : (binOp .eql 34 (.agg #[.bool false, .int .u64 0, .int .u64 42]) (.agg #[.bool false, .int .u64 0, .int .u64 42])).run Tryd.prog w = .ok (.bool true) w := by kernel_rfl
abbrev smpC : List Ins := [⟨2, 0, 0, zW⟩, ⟨1, 0, 0, ⟨false, 0, 2⟩⟩, ⟨7, 0, 0, zW⟩]
abbrev smpN : List Ins := [⟨1, 0, 0, zW⟩, ⟨1, 0, 0, zW⟩, ⟨17, 0, 0, zW⟩]
abbrev smpH : List Ins := [⟨3, 3, 0, zW⟩]
theorem smp_eval : evalW [[⟨false, 0, 21⟩]] 0 smpC = (⟨false, 0, 42⟩, 0) := by decide +kernel
theorem smp_range : evalW [] 0 smpC = (zW, 3) := by decide +kernel
theorem smp_need : evalW [] 0 smpN = (zW, 9) := by decide +kernel
theorem smp_fitC : ∀ x ∈ smpC, x.k.fit := by
  intro x hx
  simp only [smpC, List.mem_cons, List.not_mem_nil, or_false] at hx
  rcases hx with rfl | rfl | rfl
  · exact zW_fit
  · exact ⟨by decide, by decide⟩
  · exact zW_fit
theorem smp_fitN : ∀ x ∈ smpN, x.k.fit := by
  intro x hx
  simp only [smpN, List.mem_cons, List.not_mem_nil, or_false] at hx
  rcases hx with rfl | rfl | rfl <;> exact zW_fit
theorem smp_fitH : ∀ x ∈ smpH, x.k.fit := by
  intro x hx; obtain rfl := List.mem_singleton.1 hx; exact zW_fit
theorem smp_encC : encC smpH = 0 := by
  refine encC_of (by decide +kernel) ?_
  decide +kernel
theorem smp_enc : expS smpH = ⟨#[1, 3, 3]⟩ := by
  unfold expS
  rw [if_pos smp_encC]
  decide +kernel
theorem smp_dec : decX ⟨#[1, 3, 3]⟩ = smpH ∧ decEX ⟨#[1, 3, 3]⟩ = 0 := by
  have h := decX_enc smp_encC (smp_fitH)
  rw [smp_enc] at h
  exact h
theorem smp_it0 : itB 0 = ⟨#[48]⟩ := by unfold itB Lib.itoa; rw [if_neg (by decide)]; rw [show (0 : Int).toNat = 0 from rfl, Lib.decDigits_one (by decide)]; rfl
theorem smp_t2 : textW ⟨false, 0, 2⟩ = ⟨#[50]⟩ := by
  have hd : Lib.decDigits (WI.mag ⟨false, 0, 2⟩) = [50] := by
    rw [show WI.mag ⟨false, 0, 2⟩ = 2 by decide, Lib.decDigits_one (by decide)]; rfl
  unfold textW
  rw [if_pos (by decide)]
  simp only [hd]
  rfl
theorem smp_show : showX smpC = ⟨#[109, 117, 108, 40, 102, 48, 46, 48, 44, 50, 41]⟩ := by
  have e1 : leafT ⟨2, 0, 0, zW⟩ = ⟨#[102, 48, 46, 48]⟩ := by
    show (⟨#[102]⟩ ++ itB 0 ++ ⟨#[46]⟩ ++ itB 0 : ByteArray) = _
    rw [smp_it0]; decide +kernel
  have e2 : leafT ⟨1, 0, 0, ⟨false, 0, 2⟩⟩ = ⟨#[50]⟩ := smp_t2
  have e3 : showRun [] smpC = [insT ⟨7, 0, 0, zW⟩ [leafT ⟨2, 0, 0, zW⟩, leafT ⟨1, 0, 0, ⟨false, 0, 2⟩⟩]] := rfl
  unfold showX
  rw [if_pos (by decide +kernel), e3, e1, e2]
  decide +kernel
theorem smp_uses : usesL smpC = [⟨2, 0, 0, zW⟩] := by rfl
theorem ip3 {w : World} {g : Nat} {x y z : Ins} (h : w.heap[g]? = some (.cells ((icl x ++ icl y ++ icl z).toArray) 36 (0, 0))) : IP w w.heap.size (some ⟨g, 0, none⟩) [x, y, z] := by
  refine .inr ⟨g, 0, rfl, lt_of_heap h, fun i u hx => ?_⟩
  match i, hx with
  | 0, hx => injection hx with hx; subst hx; exact ⟨cell_of h rfl, cell_of h rfl, cell_of h rfl, cell_of h rfl, cell_of h rfl, cell_of h rfl⟩
  | 1, hx => injection hx with hx; subst hx; exact ⟨cell_of h rfl, cell_of h rfl, cell_of h rfl, cell_of h rfl, cell_of h rfl, cell_of h rfl⟩
  | 2, hx => injection hx with hx; subst hx; exact ⟨cell_of h rfl, cell_of h rfl, cell_of h rfl, cell_of h rfl, cell_of h rfl, cell_of h rfl⟩
  | j + 3, hx => simp at hx
theorem ip1 {w : World} {g : Nat} {x : Ins} (h : w.heap[g]? = some (.cells ((icl x).toArray) 36 (0, 0))) : IP w w.heap.size (some ⟨g, 0, none⟩) [x] := by
  refine .inr ⟨g, 0, rfl, lt_of_heap h, fun i u hx => ?_⟩
  match i, hx with
  | 0, hx => injection hx with hx; subst hx; exact ⟨cell_of h rfl, cell_of h rfl, cell_of h rfl, cell_of h rfl, cell_of h rfl, cell_of h rfl⟩
  | j + 1, hx => simp at hx
theorem yp_one {w : World} {g h c : Nat} {x : WI} (hh : w.heap[h]? = some (.cells #[.slice (some ⟨g, 0, none⟩) 1 c] 43 (0, 0))) (hc : 1 ≤ c) (hg : w.heap[g]? = some (.cells (WC x) 34 (0, 0))) : YP w w.heap.size (some ⟨h, 0, none⟩) [[x]] := by
  refine .inr ⟨h, 0, rfl, lt_of_heap hh, fun i u hx => ?_⟩
  match i, hx with
  | 0, hx =>
    injection hx with hx; subst hx
    refine ⟨some ⟨g, 0, none⟩, c, cell_of hh rfl, hc, .inr ⟨g, 0, rfl, lt_of_heap hg, fun j v hv => ?_⟩⟩
    match j, hv with
    | 0, hv => injection hv with hv; subst hv; exact ⟨cell_of hg rfl, cell_of hg rfl, cell_of hg rfl⟩
    | j + 1, hv => simp at hv
  | j + 1, hx => simp at hx

set_option maxRecDepth 20000 in
set_option maxHeartbeats 16000000 in
theorem ex_awake (w : World) : Calls Tryd.prog 6 #[] w fun r w' => r = .returned (.bool true) ∧ Keep (fun _ => False) w w' := by
  go_enter Tryd.func6, Tryd.ntmps6
  go_wp2_with fail
  refine (w_of 2 (by omega) _).mono ?_
  rintro r w1 ⟨rfl, hk⟩
  have HK1 := hid hk
  clear hk
  obtain ⟨w2, hw2, hb2, hs2, hk2⟩ := box1 w1 #[.int .i64 2, .int .i64 0, .int .i64 0, .bool false, .int .u64 0, .int .u64 0, .int .i64 1, .int .i64 0, .int .i64 0, .bool false, .int .u64 0, .int .u64 2, .int .i64 7, .int .i64 0, .int .i64 0, .bool false, .int .u64 0, .int .u64 0] 36
  have HC2 : Hid (w2.heap[w1.heap.size]? = some (.cells ((icl ⟨2, 0, 0, zW⟩ ++ icl ⟨1, 0, 0, ⟨false, 0, 2⟩⟩ ++ icl ⟨7, 0, 0, zW⟩).toArray) 36 (0, 0))) := hid hb2
  have HK2 := hid (HK1.out.trans hk2)
  clear hb2 hs2 hk2
  go_upto_region 2 with fail
  rw [← hw2]
  clear hw2
  generalize w1.heap.size = cb at *
  go_wp2_with fail
  refine (w_of 21 (by omega) _).mono ?_
  rintro r w3 ⟨rfl, hk⟩
  have HK3 := hid (HK2.out.trans hk)
  have HC3 := hid (hk.get HC2.out id)
  clear hk
  obtain ⟨w4, hw4, hb4, hb5, hs4, hk4⟩ := box2 w3 #[.bool false, .int .u64 0, .int .u64 21] #[.slice (some ⟨w3.heap.size, 0, none⟩) 1 1] 34 43
  have HY4 : Hid (YP w4 w4.heap.size (some ⟨w3.heap.size + 1, 0, none⟩) [[⟨false, 0, 21⟩]]) := hid (yp_one hb5 (Nat.le_refl _) hb4)
  have HK4 := hid (HK3.out.trans hk4)
  have HC4 := hid (hk4.get HC3.out id)
  clear hb4 hb5 hs4 hk4
  have HEV := hid (expr_eval smpC (some ⟨cb, 0, none⟩) 3 [[⟨false, 0, 21⟩]] (some ⟨w3.heap.size + 1, 0, none⟩) 1 0 w4 smp_fitC (by intro l hl; obtain rfl := List.mem_singleton.1 hl; intro x hx; obtain rfl := List.mem_singleton.1 hx; exact ⟨by decide, by decide⟩) (by omega) (ip3 HC4.out) HY4.out)
  rw [smp_eval] at HEV
  go_wp2_with fail
  rw [← hw4]
  refine HEV.out.mono ?_
  rintro r w5 ⟨rfl, hk⟩
  have HK5 := hid (HK4.out.trans hk)
  have HC5 := hid (hk.get HC4.out id)
  clear hk hw4 HEV
  obtain ⟨w6, hw6, hb6, hs6, hk6⟩ := box1 w5 #[.bool false, .int .u64 0, .int .u64 42] 34
  have HX6 := hid hb6
  have HK6 := hid (HK5.out.trans hk6)
  have HC6 := hid (hk6.get HC5.out id)
  clear hb6 hs6 hk6
  go_upto_region 3 with fail
  rw [← hw6]
  clear hw6
  generalize w5.heap.size = xb at *
  have HEV := hid (expr_eval smpC (some ⟨cb, 0, none⟩) 3 [] none 0 0 w6 smp_fitC (by intro l hl; simp at hl) (by omega) (ip3 HC6.out) (.inl rfl))
  rw [smp_range] at HEV
  go_wp2_with fail
  refine HEV.out.mono ?_
  rintro r w7 ⟨rfl, hk⟩
  have HK7 := hid (HK6.out.trans hk)
  have HC7 := hid (hk.get HC6.out id); have HX7 := hid (hk.get HX6.out id)
  clear hk HEV
  obtain ⟨w8, hw8, hb8, hs8, hk8⟩ := box1 w7 #[.bool false, .int .u64 0, .int .u64 0] 34
  have HK8 := hid (HK7.out.trans hk8)
  have HC8 := hid (hk8.get HC7.out id); have HX8 := hid (hk8.get HX7.out id)
  clear hb8 hs8 hk8
  go_upto_region 4 with fail
  rw [← hw8]
  clear hw8
  generalize w7.heap.size = yb at *
  obtain ⟨w9, hw9, hb9, hs9, hk9⟩ := box1 w8 #[.int .i64 1, .int .i64 0, .int .i64 0, .bool false, .int .u64 0, .int .u64 0, .int .i64 1, .int .i64 0, .int .i64 0, .bool false, .int .u64 0, .int .u64 0, .int .i64 17, .int .i64 0, .int .i64 0, .bool false, .int .u64 0, .int .u64 0] 36
  have HN9 : Hid (w9.heap[w8.heap.size]? = some (.cells ((icl ⟨1, 0, 0, zW⟩ ++ icl ⟨1, 0, 0, zW⟩ ++ icl ⟨17, 0, 0, zW⟩).toArray) 36 (0, 0))) := hid hb9
  have HK9 := hid (HK8.out.trans hk9)
  have HC9 := hid (hk9.get HC8.out id); have HX9 := hid (hk9.get HX8.out id)
  clear hb9 hs9 hk9
  have HEV := hid (expr_eval smpN (some ⟨w8.heap.size, 0, none⟩) 3 [] none 0 0 w9 smp_fitN (by intro l hl; simp at hl) (by omega) (ip3 HN9.out) (.inl rfl))
  rw [smp_need] at HEV
  go_wp2_with fail
  rw [← hw9]
  clear hw9
  refine HEV.out.mono ?_
  rintro r w10 ⟨rfl, hk⟩
  have HK10 := hid (HK9.out.trans hk)
  have HC10 := hid (hk.get HC9.out id); have HX10 := hid (hk.get HX9.out id)
  clear hk HEV HN9
  generalize w8.heap.size = nb at *
  obtain ⟨w11, hw11, hb11, hs11, hk11⟩ := box1 w10 #[.bool false, .int .u64 0, .int .u64 0] 34
  have HK11 := hid (HK10.out.trans hk11)
  have HC11 := hid (hk11.get HC10.out id); have HX11 := hid (hk11.get HX10.out id)
  clear hb11 hs11 hk11
  go_upto_region 5 with fail
  rw [← hw11]
  clear hw11
  generalize w10.heap.size = zb at *
  obtain ⟨w12, hw12, hb12, hs12, hk12⟩ := box1 w11 #[.int .i64 3, .int .i64 3, .int .i64 0, .bool false, .int .u64 0, .int .u64 0] 36
  have HN12 : Hid (w12.heap[w11.heap.size]? = some (.cells ((icl ⟨3, 3, 0, zW⟩).toArray) 36 (0, 0))) := hid hb12
  have HK12 := hid (HK11.out.trans hk12)
  have HC12 := hid (hk12.get HC11.out id); have HX12 := hid (hk12.get HX11.out id)
  clear hb12 hs12 hk12
  have HEN := hid (expr_encodeX smpH (some ⟨w11.heap.size, 0, none⟩) 1 w12 smp_fitH (ip1 HN12.out))
  rw [smp_enc, smp_encC] at HEN
  go_wp2_with fail
  rw [← hw12]
  clear hw12
  refine HEN.out.mono ?_
  rintro r w13 ⟨rfl, hk⟩
  have HK13 := hid (HK12.out.trans hk)
  have HC13 := hid (hk.get HC12.out id); have HX13 := hid (hk.get HX12.out id)
  clear hk HEN HN12
  generalize w11.heap.size = hb at *
  have HDE := hid (ex_decode ⟨#[1, 3, 3]⟩ w13 (by decide))
  unfold DecI at HDE
  rw [smp_dec.1, smp_dec.2] at HDE
  go_wp2_with fail
  refine HDE.out.mono ?_
  rintro r w14 ⟨dp, dc, rfl, hown, hk⟩
  have HK14 := hid (HK13.out.trans hk)
  have HC14 := hid (hk.get HC13.out id); have HX14 := hid (hk.get HX13.out id)
  obtain ⟨db, rfl⟩ := owns_some hown (by decide)
  have HDP := hid (ip_own rfl hown)
  clear hk HDE hown
  go_upto_region 7 with fail
  have HK15 := hid HK14.out.drew; have HC15 : Hid (w14.drew.heap[cb]? = _) := hid HC14.out; have HX15 : Hid (w14.drew.heap[xb]? = _) := hid HX14.out
  have HD15 : Hid (IP w14.drew w14.drew.heap.size (some ⟨db, 0, none⟩) [⟨3, 3, 0, zW⟩]) := hid HDP.out
  refine Plan.wp_region_pl3 [(false, 0, []), (false, 1, []), (false, 2, []), (false, 3, []), (true, 4, [3]), (false, 5, []), (false, 6, []), (false, 7, []), (false, 8, []), (false, 9, []), (false, 10, []), (false, 11, []), (false, 12, []), (false, 13, []), (false, 14, []), (false, 15, []), (false, 16, []), (false, 17, []), (false, 18, []), (false, 19, []), (false, 20, []), (false, 21, []), (false, 22, []), (false, 23, []), (false, 24, []), (false, 25, []), (false, 26, []), (false, 27, []), (false, 28, []), (false, 29, []), (false, 30, []), (false, 31, []), (false, 32, []), (false, 33, []), (false, 34, []), (false, 35, []), (false, 36, []), (false, 37, []), (false, 38, []), (false, 39, []), (false, 40, []), (true, 41, []), (false, 42, []), (false, 43, []), (false, 44, []), (true, 45, []), (false, 46, []), (false, 47, []), (false, 48, []), (false, 49, []), (true, 50, []), (false, 51, []), (false, 52, []), (false, 53, []), (false, 54, [])] (by as_aux_lemma => kernel_rfl) (by as_aux_lemma => kernel_rfl) ?_
  clear HDP
  generalize w14.drew = w15 at *
  have x0 : w15.cell? ⟨xb, 0, none⟩ = some (.bool false) := cell_of HX15.out (by rfl)
  have x1 : w15.cell? ⟨xb, 1, none⟩ = some (.int .u64 0) := cell_of HX15.out (by rfl)
  have x2 : w15.cell? ⟨xb, 2, none⟩ = some (.int .u64 42) := cell_of HX15.out (by rfl)
  iterate 4 (refine Plan.pl_st rfl ?_; go_big_quiet_step (fail); refine wpQuiet_nil ?_)
  refine Plan.pl_ac rfl ?_
  go_wp2_with fail
  refine (w_of 42 (by omega) _).mono ?_
  rintro r w16 ⟨rfl, hk⟩
  have HK16 := hid (HK15.out.trans hk); have HC16 := hid (hk.get HC15.out id); have HX16 := hid (hk.get HX15.out id)
  have HD16 := hid (IP.low HD15.out (Low.keep0 hk))
  clear hk x0 x1 x2
  have x0 : w16.cell? ⟨xb, 0, none⟩ = some (.bool false) := cell_of HX16.out (by rfl)
  have x1 : w16.cell? ⟨xb, 1, none⟩ = some (.int .u64 0) := cell_of HX16.out (by rfl)
  have x2 : w16.cell? ⟨xb, 2, none⟩ = some (.int .u64 42) := cell_of HX16.out (by rfl)
  go_wp2
  refine Plan.plQ_mk ?_ ?_
  · iterate 1 (refine Plan.chk_st rfl ?_ ?_; focus (go_big_quiet_step (fail); exact wpQuiet_nil rfl))
    exact Plan.chk_end
  refine Plan.pl_st rfl ?_
  refine quiet_eql_g rfl _ _ _ _ _ _ _ rfl (by rfl) (by rfl) (by kernel_rfl) (smp_eqI _) ?_
  simp only [Act.put, List.setIfInBounds_toArray, List.set_cons_succ, List.set_cons_zero]
  refine wpQuiet_nil ?_
  clear x0 x1 x2
  iterate 29 (refine Plan.pl_st rfl ?_; go_big_quiet_step (fail); refine wpQuiet_nil ?_)
  obtain ⟨db2, do2, he, _, d0, d1, d2, d3, d4, d5⟩ := IP.at HD16.out (i := 0) rfl
  injection he with he; injection he with he1 he2 _; subst he1 he2
  simp only [Nat.zero_mul, Nat.add_zero, Nat.zero_add] at d0 d1 d2 d3 d4 d5
  iterate 2 (refine Plan.pl_st rfl ?_; go_big_quiet_step (fail); refine wpQuiet_nil ?_)
  clear d0 d1 d2 d3 d4 d5
  refine Plan.pl_st rfl ?_
  refine quiet_eql_g rfl _ _ _ _ _ _ _ rfl (by rfl) (by rfl) (by kernel_rfl) (smp_eqH _) ?_
  simp only [Act.put, List.setIfInBounds_toArray, List.set_cons_succ, List.set_cons_zero]
  refine wpQuiet_nil ?_
  iterate 3 (refine Plan.pl_st rfl ?_; go_big_quiet_step (fail); refine wpQuiet_nil ?_)
  have HSH := hid (expr_show smpC (some ⟨cb, 0, none⟩) 3 w16 smp_fitC (ip3 HC16.out))
  rw [smp_show] at HSH
  refine Plan.pl_ac rfl ?_
  go_wp2_with fail
  refine HSH.out.mono ?_
  rintro r w17 ⟨rfl, hk⟩
  have HK17 := hid (HK16.out.trans hk); have HC17 := hid (hk.get HC16.out id)
  clear hk HSH
  go_wp2
  refine Plan.plQ_mk Plan.chk_end ?_
  iterate 3 (refine Plan.pl_st rfl ?_; go_big_quiet_step (fail); refine wpQuiet_nil ?_)
  have HCH : Hid (Calls Tryd.prog 13 #[.slice none 0 0] w17 fun r w' => r = .returned (iV 4) ∧ Keep (fun _ => False) w17 w') := hid (expr_check [] none 0 w17 (by intro x hx; simp at hx) (.inl rfl))
  refine Plan.pl_ac rfl ?_
  go_wp2_with fail
  refine HCH.out.mono ?_
  rintro r w18 ⟨rfl, hk⟩
  have HK18 := hid (HK17.out.trans hk); have HC18 := hid (hk.get HC17.out id)
  clear hk HCH
  go_wp2
  refine Plan.plQ_mk Plan.chk_end ?_
  iterate 4 (refine Plan.pl_st rfl ?_; go_big_quiet_step (fail); refine wpQuiet_nil ?_)
  have HUS := hid (expr_uses smpC (some ⟨cb, 0, none⟩) 3 w18 (by decide) (ip3 HC18.out))
  rw [smp_uses] at HUS
  refine Plan.pl_ac rfl ?_
  go_wp2_with fail
  refine HUS.out.mono ?_
  rintro r w19 ⟨up, uc, rfl, _, hk⟩
  have HK19 := hid (HK18.out.trans hk)
  clear hk HUS
  go_wp2
  refine Plan.plQ_mk Plan.chk_end ?_
  iterate 4 (refine Plan.pl_st rfl ?_; go_big_quiet_step (fail); refine wpQuiet_nil ?_)
  refine Plan.pl_end ?_
  go_wp2
  go_ret
  exact ⟨rfl, HK19.out⟩
end Go.Proofs.YtjebgidddfamlaaDoor

namespace Go.Proofs.YtjebgidddfamlaaDoor
open Go.RowKit Go.Proofs.Heap Go.Proofs.Sch Go.Proofs.Wide

/-- More than is asked. -/
def greatX (code : List Ins) (fs : List (List WI)) : Bool := decide (80 < code.length) || (decide (12 < fs.length) || fs.any (fun l => decide (20 < l.length)))
theorem greatX_no {code : List Ins} {fs : List (List WI)} (h : greatX code fs = false) : code.length ≤ 80 ∧ fs.length ≤ 12 ∧ ∀ l ∈ fs, l.length ≤ 20 := by
  unfold greatX at h
  simp only [Bool.or_eq_false_iff, decide_eq_false_iff_not, List.any_eq_false, decide_eq_true_eq] at h
  exact ⟨by omega, by omega, fun t ht => by have := h.2.2 t ht; omega⟩

set_option maxRecDepth 20000 in
set_option maxHeartbeats 8000000 in
theorem ex_great (code : List Ins) (p : Option Addr) (c : Nat) (fs : List (List WI)) (q : Option Addr) (qc : Nat) (w : World) (hq : YP w w.heap.size q fs) :
    Calls Tryd.prog 7 #[.slice p code.length c, .slice q fs.length qc] w fun r w' => r = .returned (.bool (greatX code fs)) ∧ Keep (fun _ => False) w w' := by
  have HY := hid (fun (wy : World) (hk : Keep (fun _ => False) w wy) => YP.low hq (Low.keep0 hk))
  have HR : Hid (greatX code fs = (decide (80 < code.length) || (decide (12 < fs.length) || fs.any (fun l => decide (20 < l.length))))) := hid rfl
  generalize greatX code fs = R at *
  clear hq
  go_enter Tryd.func7, Tryd.ntmps7
  cases e1 : decide (80 < code.length)
  rotate_left
  · have G : Hid (R = true) := hid (by rw [HR.out, e1]; rfl)
    have e1' : decide ((80 : Int) < (code.length : Int)) = true := decide_eq_true (by have := of_decide_eq_true e1; omega)
    go_wp2
    go_ret
    exact ⟨by rw [G.out]; rfl, Keep.refl _ _⟩
  have e1' : decide ((80 : Int) < (code.length : Int)) = false := decide_eq_false (by have := of_decide_eq_false e1; omega)
  cases e2 : decide (12 < fs.length)
  rotate_left
  · have G : Hid (R = true) := hid (by rw [HR.out, e1, e2]; rfl)
    have e2' : decide ((12 : Int) < (fs.length : Int)) = true := decide_eq_true (by have := of_decide_eq_true e2; omega)
    go_wp2
    go_ret
    exact ⟨by rw [G.out]; rfl, Keep.refl _ _⟩
  have e2' : decide ((12 : Int) < (fs.length : Int)) = false := decide_eq_false (by have := of_decide_eq_false e2; omega)
  have HR2 : Hid (R = fs.any (fun l => decide (20 < l.length))) := hid (by rw [HR.out, e1, e2]; rfl)
  have hl : fs.length ≤ 12 := by have := of_decide_eq_false e2; omega
  go_wp2_with fail
  clear e1 e2 e1' e2' HR
  go_loopw [5] (fun i wr => ∃ k : Nat, k ≤ fs.length ∧ i = iV k ∧ (∀ j t, j < k → fs[j]? = some t → ¬ 20 < t.length) ∧ Keep (fun _ => False) w wr) (fun i _ => fs.length + 1 - (RowKit.intOf i).toNat)
  case atStart => exact ⟨0, Nat.zero_le _, rfl, fun j t hj => by omega, Keep.refl _ _⟩
  case round =>
    obtain ⟨k, hk, rfl, hal, hkr⟩ := hrel
    have HAL := hid hal; have HKR := hid hkr
    clear hal hkr
    by_cases hlt : k < fs.length
    · obtain ⟨t, ht⟩ : ∃ t, fs[k]? = some t := ⟨fs[k], by simp [hlt]⟩
      obtain ⟨b1, o1, tp, tc, rfl, hb1, x0, _⟩ := YP.at (HY.out wr HKR.out) ht
      have hin : (0 : Int) ≤ (k : Int) ∧ (k : Int) < (fs.length : Int) := ⟨by omega, by omega⟩
      by_cases hg : 20 < t.length
      · have G : Hid (R = true) := hid (by
          rw [HR2.out, List.any_eq_true]
          exact ⟨t, List.mem_of_getElem? ht, decide_eq_true hg⟩)
        have g1 : decide ((20 : Int) < (t.length : Int)) = true := decide_eq_true (by omega)
        have g2 : decide (20 < t.length) = true := decide_eq_true hg
        clear ht hg
        go_wp2
        go_ret
        exact ⟨by rw [G.out]; rfl, HKR.out⟩
      · have HN : Hid (∀ j t, j < k + 1 → fs[j]? = some t → ¬ 20 < t.length) := hid (fun j u hj hu => by
          rcases Nat.lt_or_ge j k with h | h
          · exact HAL.out j u h hu
          · obtain rfl : j = k := by omega
            rw [ht] at hu; injection hu with hu; subst hu; exact hg)
        have g1 : decide ((20 : Int) < (t.length : Int)) = false := decide_eq_false (by omega)
        have g2 : decide (20 < t.length) = false := decide_eq_false hg
        clear ht hg
        go_wp2
        go_roundw
        case rel => exact ⟨k + 1, by omega, by go_num, HN.out, HKR.out⟩
        case measure => simp [intOf]; omega
    · obtain rfl : k = fs.length := by omega
      have G : Hid (R = false) := hid (by
        rw [HR2.out, List.any_eq_false]
        intro t ht
        obtain ⟨j, hj⟩ := List.getElem?_of_mem ht
        have := HAL.out j t (List.getElem?_eq_some_iff.1 hj).1 hj
        simpa using this)
      go_wp2
      go_ret
      exact ⟨by rw [G.out]; rfl, HKR.out⟩
end Go.Proofs.YtjebgidddfamlaaDoor

namespace Go.Proofs.YtjebgidddfamlaaDoor
open Go.RowKit Go.Proofs.Heap Go.Proofs.Sch Go.Proofs.Wide

theorem ins_ext (a b : Ins) : (a.op = b.op ∧ a.a = b.a ∧ a.b = b.b ∧ a.k = b.k) ↔ a = b := by cases a; cases b; simp
instance : DecidableEq Ins := fun a b => decidable_of_iff _ (ins_ext a b)
set_option maxRecDepth 100000 in
theorem eq_insB (x y : Ins) (w : World) : (Op.equalIn 10000 36 (InV x) (InV y)).run Tryd.prog w = .ok (decide (x = y)) w := by
  have u0 := Tryd.underlying3
  have u1 := Tryd.underlying4
  have u2 := Tryd.underlying32
  have hS : Tryd.prog.underlying 36 = some (.struct (Tryd.prog.fieldsOf 36)) := by kernel_rfl
  have hp : Tryd.prog.stoodInHeld 36 = false := by kernel_rfl
  have hS2 : Tryd.prog.underlying 34 = some (.struct (Tryd.prog.fieldsOf 34)) := by kernel_rfl
  have hp2 : Tryd.prog.stoodInHeld 34 = false := by kernel_rfl
  have key : ∀ (a b : WI), (Op.equalIn 9999 34 (WV a) (WV b)).run Tryd.prog w = .ok (decide (a = b)) w := by
    intro a b
    rw [show (9999 : Nat) = 9998 + 1 from rfl, run_equalIn_agg w 9998 34 _ _ hS2 hp2]
    simp only [Program.fieldsOf, Tryd.underlying34]
    go_simp
    obtain ⟨n1, h1, l1⟩ := a
    obtain ⟨n2, h2, l2⟩ := b
    cases n1 <;> cases n2 <;> by_cases e1 : h1 = h2 <;> by_cases e2 : l1 = l2 <;> simp [e1, e2] <;> omega
  rw [show (10000 : Nat) = 9999 + 1 from rfl, run_equalIn_agg w 9999 36 _ _ hS hp]
  simp only [Program.fieldsOf, Tryd.underlying36]
  clear hS hp hS2 hp2
  have px : ∀ z : Ins, (part 3 #[.int .i64 z.op, .int .i64 z.a, .int .i64 z.b, .bool z.k.neg, .int .u64 (z.k.hi : Int), .int .u64 (z.k.lo : Int)] 0).run Tryd.prog w = .ok (.int .i64 z.op) w ∧
      (part 3 #[.int .i64 z.op, .int .i64 z.a, .int .i64 z.b, .bool z.k.neg, .int .u64 (z.k.hi : Int), .int .u64 (z.k.lo : Int)] 1).run Tryd.prog w = .ok (.int .i64 z.a) w ∧
      (part 3 #[.int .i64 z.op, .int .i64 z.a, .int .i64 z.b, .bool z.k.neg, .int .u64 (z.k.hi : Int), .int .u64 (z.k.lo : Int)] 2).run Tryd.prog w = .ok (.int .i64 z.b) w ∧
      (part 34 #[.int .i64 z.op, .int .i64 z.a, .int .i64 z.b, .bool z.k.neg, .int .u64 (z.k.hi : Int), .int .u64 (z.k.lo : Int)] 3).run Tryd.prog w = .ok (WV z.k) w := fun z => ⟨by kernel_rfl, by kernel_rfl, by kernel_rfl, by kernel_rfl⟩
  have ei : ∀ a b : Int, (Op.equalIn 9999 3 (.int .i64 a) (.int .i64 b)).run Tryd.prog w = .ok (a == b) w := fun a b => run_equalIn_int w 9998 3 .i64 .i64 a b u0
  obtain ⟨x0, x1, x2, x3⟩ := px x
  obtain ⟨y0, y1, y2, y3⟩ := px y
  have hx : (x = y) ↔ (x.op = y.op ∧ x.a = y.a ∧ x.b = y.b ∧ x.k = y.k) := by
    obtain ⟨o1, a1, b1, k1⟩ := x
    obtain ⟨o2, a2, b2, k2⟩ := y
    simp only [Ins.mk.injEq]
  simp only [Op.eqFields, Sem.run_bind, Sem.run_ite, x0, x1, x2, x3, y0, y1, y2, y3, ei, key, Result.andThen_ok]
  by_cases h0 : x.op = y.op <;> by_cases h1 : x.a = y.a <;> by_cases h2 : x.b = y.b <;> by_cases h3 : x.k = y.k <;> simp [hx, h0, h1, h2, h3]
theorem neq_insB (x y : Ins) (w : World) : (binOp .neq 36 (InV x) (InV y)).run Tryd.prog w = .ok (.bool (!decide (x = y))) w := by
  rw [run_neq_struct, eq_insB]; rfl
theorem eql_insB (x y : Ins) (w : World) : (binOp .eql 36 (InV x) (InV y)).run Tryd.prog w = .ok (.bool (decide (x = y))) w := by
  rw [run_eql_struct, eq_insB]; rfl
end Go.Proofs.YtjebgidddfamlaaDoor

namespace Go.Proofs.YtjebgidddfamlaaDoor
open Go.RowKit Go.Proofs.Heap Go.Proofs.Sch Go.Proofs.Wide

theorem one_byteX (w : World) (m : UInt8) : (convert 30 9 (.slice (some ⟨w.heap.size, 0, none⟩) 1 1)).run Tryd.prog (w.alloc (.cells #[.int .u8 (m.toNat : Int)] 5)) = .ok (.string ⟨#[m]⟩) (w.alloc (.cells #[.int .u8 (m.toNat : Int)] 5)) := by
  refine run_bytes_string _ _ _ 5 Tryd.underlying30 Tryd.underlying5 Tryd.underlying9 _ 0 1 1 [m] rfl (fun i x hx => ?_)
  match i, hx with
  | 0, hx =>
    injection hx with hx
    subst hx
    exact cell_of (heap_alloc_new w _) rfl
  | _ + 1, hx => simp at hx
theorem expS_size (code : List Ins) (h : code.length ≤ 80) : (expS code).size ≤ 2000 := by
  unfold expS
  split
  · have h1 := flat_le insL 18 (l := code) (fun g _ => insL_len g)
    show (expL code).toArray.size ≤ _
    rw [List.size_toArray]
    unfold expL
    rw [List.length_append, leL_len]
    have : code.length * 18 ≤ 80 * 18 := Nat.mul_le_mul_right _ h
    omega
  · exact Nat.zero_le _

set_option maxRecDepth 20000 in
set_option maxHeartbeats 32000000 in
theorem ex_back (code : List Ins) (p : Option Addr) (c : Nat) (m : UInt8) (w : World) (hfit : ∀ x ∈ code, x.k.fit) (hf : IP w w.heap.size p code) :
    Calls Tryd.prog 3 #[.slice p code.length c, .int .u8 (m.toNat : Int)] w fun r w' => r = .returned (.bool true) ∧ Keep (fun _ => False) w w' := by
  have HX := hid hfit
  have HF := hid (fun (wy : World) (hk : Keep (fun _ => False) w wy) => IP.mono (IP.low hf (Low.keep0 hk)) hk.size)
  clear hfit hf
  go_enter Tryd.func3, Tryd.ntmps3
  go_wp2_with fail
  refine (ex_awake w).mono ?_
  rintro r w1 ⟨rfl, hk⟩
  have HK1 := hid hk
  clear hk
  have HGR : Hid (Calls Tryd.prog 7 #[.slice p code.length c, .slice none 0 0] w1 fun r w' => r = .returned (.bool (greatX code [])) ∧ Keep (fun _ => False) w1 w') := hid (ex_great code p c [] none 0 w1 (.inl rfl))
  go_wp2_with fail
  refine HGR.out.mono ?_
  rintro r w2 ⟨rfl, hk⟩
  have HK2 := hid (HK1.out.trans hk)
  clear hk HGR
  cases ga : greatX code []
  rotate_left
  · go_wp2
    go_ret
    exact ⟨rfl, HK2.out⟩
  have HCL := hid (greatX_no ga).1
  clear ga
  have HEN := hid (expr_encodeX code p c w2 HX.out (HF.out _ HK2.out))
  go_wp2_with fail
  refine HEN.out.mono ?_
  rintro r w3 ⟨rfl, hk⟩
  have HK3 := hid (HK2.out.trans hk)
  clear hk HEN
  by_cases hz : encC code = 0
  rotate_left
  · have he : expS code = ⟨#[]⟩ := if_neg hz
    rw [he]
    obtain ⟨C, hC⟩ : ∃ C, encC code = C := ⟨_, rfl⟩
    rw [hC] at hz ⊢
    have g1 : ((C : Int) != 0) = true := by rw [bne_iff_ne]; omega
    have g2 : (C != 0) = true := by rw [bne_iff_ne]; exact hz
    clear he hC hz
    go_wp2
    go_ret
    exact ⟨rfl, HK3.out⟩
  have HD1 := hid (decX_enc hz HX.out)
  have HD2 := hid (decX_more hz HX.out m)
  have HD3 := hid (decX_less hz HX.out)
  have HS4 := hid (expS_size code HCL.out)
  have HS5 : Hid (1 ≤ (expS code).size) := hid (by
    have e0 : expS code = bsB (expL code) := if_pos hz
    rw [e0, bs_size]; exact expL_pos code)
  rw [hz]
  clear hz
  have HDA := hid (ex_decode (expS code) w3 (by have := HS4.out; omega))
  generalize expS code = eb at *
  unfold DecI at HDA
  rw [HD1.out.1, HD1.out.2] at HDA
  obtain ⟨n, hn⟩ : ∃ n, eb.size = n + 1 := ⟨eb.size - 1, by have := HS5.out; omega⟩
  have HN := hid hn
  rw [show eb.size - 1 = n by omega] at HD3
  clear hn
  go_wp2_with fail
  refine HDA.out.mono ?_
  rintro r w4 ⟨dp, dc, rfl, hown, hk⟩
  have HK4 := hid (HK3.out.trans hk)
  have HIP := hid (ip_own rfl hown)
  clear hk hown HDA
  go_upto_region 9 with fail
  have hcv := one_byteX w4 m
  obtain ⟨w5, hw5, hb5, hs5, hk5⟩ := box1 w4 #[.int .u8 (m.toNat : Int)] 5
  have HK5 := hid (HK4.out.trans hk5)
  have HIP5 := hid (IP.mono (IP.low HIP.out (Low.keep0 hk5)) hk5.size)
  clear hb5 hs5 hk5 HIP
  have hz1 : ¬ (9223372036854775807 < eb.size + 1) := by have := HS4.out; omega
  have HDM := hid (fun wy => ex_decode (eb ++ ⟨#[m]⟩) wy (by rw [ByteArray.size_append]; have := HS4.out; have h : (⟨#[m]⟩ : ByteArray).size = 1 := rfl; omega))
  generalize hbx : eb ++ ⟨#[m]⟩ = bx at *
  go_wp2_with fail
  rw [← hw5]
  clear hw5 hcv hz1 hbx
  refine (HDM.out w5).mono ?_
  rintro r w6 ⟨dp2, dc2, rfl, _, hk⟩
  rw [HD2.out]
  have HK6 := hid (HK5.out.trans hk)
  have HIP6 := hid (IP.mono (IP.low HIP5.out (Low.keep0 hk)) hk.size)
  clear hk HDM HIP5
  generalize (decX bx).length = lx at *
  have HDL := hid (fun wy => ex_decode (eb.extract 0 n) wy (by rw [ByteArray.size_extract]; have := HS4.out; omega))
  have hn := HN.out
  have hnb : n ≤ 9223372036854775806 := by have := HS4.out; omega
  have hwn : wrap64 (n : Int) = (n : Int) := by unfold wrap64; omega
  have hin : (0 : Int) ≤ (n : Int) ∧ (n : Int) ≤ (n : Int) + 1 := ⟨by omega, by omega⟩
  go_wp2_with fail
  refine (HDL.out w6).mono ?_
  rintro r w7 ⟨dp3, dc3, rfl, _, hk⟩
  rw [HD3.out]
  have HK7 := hid (HK6.out.trans hk)
  have HIP7 := hid (IP.mono (IP.low HIP6.out (Low.keep0 hk)) hk.size)
  clear hk HDL hn hnb hwn hin HIP6
  generalize (decX (eb.extract 0 n)).length = ly at *
  generalize eb.extract 0 n = ec at *
  have hne : ((code.length : Int) != (code.length : Int)) = false := by simp
  have HSA := hid (expr_show code dp dc w7 HX.out HIP7.out)
  go_wp2_with fail
  refine HSA.out.mono ?_
  rintro r w8 ⟨rfl, hk⟩
  have HK8 := hid (HK7.out.trans hk)
  have HIP8 := hid (IP.mono (IP.low HIP7.out (Low.keep0 hk)) hk.size)
  clear hk HSA HIP7
  have HSB := hid (expr_show code p c w8 HX.out (HF.out _ HK8.out))
  go_wp2_with fail
  refine HSB.out.mono ?_
  rintro r w9 ⟨rfl, hk⟩
  have HK9 := hid (HK8.out.trans hk)
  have HIP9 := hid (IP.mono (IP.low HIP8.out (Low.keep0 hk)) hk.size)
  clear hk HSB HIP8
  have hse : (!(showX code).toList == (showX code).toList) = false := by simp
  go_wp2_with fail
  clear hse hne
  go_loopw [13] (fun i wr => ∃ k : Nat, k ≤ code.length ∧ i = iV k ∧ Keep (fun _ => False) w9 wr) (fun i _ => code.length + 1 - (RowKit.intOf i).toNat)
  case atStart => exact ⟨0, Nat.zero_le _, rfl, Keep.refl _ _⟩
  case round =>
    obtain ⟨k, hk, rfl, hkr⟩ := hrel
    have HKR := hid hkr
    have HKA := hid (HK9.out.trans hkr)
    have HIR := hid (IP.mono (IP.low HIP9.out (Low.keep0 hkr)) hkr.size)
    have hcl : code.length ≤ 80 := HCL.out
    have hcl2 : (code.length : Int) ≤ 80 := by omega
    clear hkr
    by_cases hlt : k < code.length
    · obtain ⟨x, hx⟩ : ∃ x, code[k]? = some x := ⟨code[k], by simp [hlt]⟩
      obtain ⟨b1, o1, rfl, _, x0, x1, x2, x3, x4, x5⟩ := IP.at (w := wr.drew) (show IP wr.drew wr.heap.size dp code from HIR.out) hx
      obtain ⟨b2, o2, rfl, _, y0, y1, y2, y3, y4, y5⟩ := IP.at (w := wr.drew) (show IP wr.drew wr.heap.size p code from HF.out _ HKA.out.drew) hx
      have hin : (0 : Int) ≤ (k : Int) ∧ (k : Int) < (code.length : Int) := ⟨by omega, by omega⟩
      have HEQ : Hid (∀ wy, (binOp .neq 36 (InV x) (InV x)).run Tryd.prog wy = .ok (.bool false) wy) := hid (fun wy => by rw [neq_insB]; simp)
      clear hx
      obtain ⟨op, xa, xb, ⟨kn, kh, kl⟩⟩ := x
      simp only at x0 x1 x2 x3 x4 x5 y0 y1 y2 y3 y4 y5
      go_upto_region 16 with fail
      refine Plan.wp_region_pl [(false, 0, []), (false, 1, []), (false, 2, []), (false, 3, []), (false, 4, []), (false, 5, []), (false, 6, []), (false, 7, []), (false, 8, [])] (by as_aux_lemma => kernel_rfl) (by as_aux_lemma => kernel_rfl) ?_
      have HKD := hid HKR.out.drew
      generalize wr.drew = wd at *
      iterate 8 (refine Plan.pl_st rfl ?_; go_big_quiet_step (fail); refine wpQuiet_nil ?_)
      refine Plan.pl_st rfl ?_
      refine quiet_neq rfl _ _ _ _ _ _ _ rfl (by rfl) (by rfl) (by kernel_rfl) (HEQ.out _) ?_
      simp only [Act.put, List.setIfInBounds_toArray, List.set_cons_succ, List.set_cons_zero]
      refine wpQuiet_nil ?_
      refine Plan.pl_end ?_
      clear x0 x1 x2 x3 x4 x5 y0 y1 y2 y3 y4 y5
      go_wp2
      go_roundw
      case rel => exact ⟨k + 1, by omega, by go_num, HKD.out⟩
      case measure => simp [intOf]; omega
    · obtain rfl : k = code.length := by omega
      go_wp2
      go_ret
      exact ⟨rfl, HKA.out⟩
end Go.Proofs.YtjebgidddfamlaaDoor

namespace Go.Proofs.YtjebgidddfamlaaDoor
open Go.ChangeShapes Go.WideShapes Go.ChangeAt Go.RowKit Go.Proofs.Heap Go.Proofs.Sch

theorem u64_wf {z : Int} (h : (Lit.int .u64 z).wf = true) : 0 ≤ z ∧ z < 18446744073709551616 := by
  have h : IntKind.u64.min ≤ z ∧ z ≤ IntKind.u64.max := by simpa [Lit.wf] using h
  have h1 : IntKind.u64.min = 0 := by decide
  have h2 : IntKind.u64.max = 18446744073709551615 := by decide
  omega

section
variable {H : Type} {enc : TypeId × Value → H} {W : World}

theorem addr_add (b off i : Nat) : (⟨b, off, none⟩ : Addr).add i = ⟨b, off + i, none⟩ := by unfold Addr.add; split <;> simp_all

/-- A row of things that a law is handed. -/
theorem open_row {α : Type} {z : Nat} {t e : TypeId} (ht : Tryd.prog.underlying t = some (.slice e)) (hsz : Tryd.prog.cellsOf e = z) (at_ : World → Nat → Nat → α → Prop)
    (hel : ∀ (a : Addr) (n : Nat) (cs : List Value) (D : DataW H × List MemPlace), W.cells? 0 a z = some cs → DataW.trod enc Tryd.prog W 0 (fun _ => true) true n e cs = some D → a.spot = none ∧ a.block < W.heap.size ∧ ∃ x : α, at_ W a.block a.off x)
    {fuel : Nat} {cs : List Value} {x : DataW H × List MemPlace} (h : DataW.trod enc Tryd.prog W 0 (fun _ => true) true fuel t cs = some x) :
    ∃ (p : Option Addr) (c : Nat) (l : List α), cs = [.slice p l.length c] ∧ l.length ≤ c ∧ RowP z at_ W W.heap.size p l := by
  rcases Go.Deep.open_slice ht h with ⟨hcs, _⟩ | ⟨a, len, cap, m, n, D, Pl, hcs, _, hl, hm, hz', _, hcell⟩
  · exact ⟨none, 0, [], hcs, Nat.le_refl _, .inl rfl⟩
  · have hmc : m = cap := by simpa using hz'
    subst hmc
    rw [hsz] at hcell
    by_cases hl0 : len = 0
    · subst hl0
      exact ⟨some a, m, [], hcs, Nat.zero_le _, .inl rfl⟩
    · obtain ⟨b, off, spot⟩ := a
      have hblk : spot = none ∧ b < W.heap.size := by
        obtain ⟨cs', hc1, hc2⟩ := hcell 0 (by omega)
        obtain ⟨h1, h2, _⟩ := hel _ _ _ _ hc1 hc2
        refine ⟨?_, by simpa [Addr.add] using h2⟩
        simpa [Addr.add] using h1
      obtain ⟨rfl, hb⟩ := hblk
      have key : ∀ k, k ≤ len → ∃ l : List α, l.length = k ∧ ∀ i y, l[i]? = some y → at_ W b (off + i * z) y := by
        intro k
        induction k with
        | zero => exact fun _ => ⟨[], rfl, fun i y hy => by simp at hy⟩
        | succ k ih =>
          intro hk
          obtain ⟨l, hll, hla⟩ := ih (by omega)
          obtain ⟨cs', hc1, hc2⟩ := hcell k (by omega)
          obtain ⟨_, _, y, hy⟩ := hel _ _ _ _ hc1 hc2
          rw [addr_add] at hy
          refine ⟨l ++ [y], by simp [hll], fun i u hu => ?_⟩
          by_cases hik : i < k
          · rw [List.getElem?_append_left (by omega)] at hu
            exact hla i u hu
          · rw [List.getElem?_append_right (by omega)] at hu
            have : i = k := by
              have := (List.getElem?_eq_some_iff.1 hu).1
              simp at this
              omega
            subst this
            simp [hll] at hu
            subst hu
            exact hy
      obtain ⟨l, hll, hla⟩ := key len (Nat.le_refl _)
      subst hll
      exact ⟨_, m, l, hcs, hl, .inr ⟨b, off, rfl, hb, hla⟩⟩

theorem spot_of {a : Addr} {v : Value} (h : W.cell? (a.add 0) = some v) : a.spot = none ∧ a.block < W.heap.size := by
  obtain ⟨b, off, spot⟩ := a
  have h1 : spot = none := by simpa [Addr.add] using World.cell?_spot h
  subst h1
  rw [addr_add] at h
  exact ⟨rfl, World.block_lt_of_cell? W _ h⟩

end
end Go.Proofs.YtjebgidddfamlaaDoor

namespace Go.Proofs.YtjebgidddfamlaaDoor
open Go.ChangeShapes Go.WideShapes Go.ChangeAt Go.RowKit Go.Proofs.Heap Go.Proofs.Sch Go.Proofs.Wide

section
variable {H : Type} {enc : TypeId × Value → H} {W : World}

def InsFit (w : World) (b o : Nat) (x : Ins) : Prop := InsAt w b o x ∧ x.k.fit

set_option maxRecDepth 100000 in
theorem open_ins (a : Addr) (n : Nat) (cs : List Value) (D : DataW H × List MemPlace) (hc : W.cells? 0 a 6 = some cs) (h : DataW.trod enc Tryd.prog W 0 (fun _ => true) true n 36 cs = some D) :
    a.spot = none ∧ a.block < W.heap.size ∧ ∃ x : Ins, InsFit W a.block a.off x := by
  have hs_bool : Tryd.prog.cellsOf 4 = 1 := by kernel_rfl
  have hs_u64 : Tryd.prog.cellsOf 32 = 1 := by kernel_rfl
  have hs_int : Tryd.prog.cellsOf 3 = 1 := by kernel_rfl
  have hs_k : Tryd.prog.cellsOf 34 = 3 := by kernel_rfl
  obtain ⟨_, hlen, hat⟩ := World.cells?_some hc
  obtain ⟨y0, y1, y2, y3, n', _, _, t0, t1, t2, t3⟩ := Go.Joins.trod_struct4 Tryd.underlying36 h
  match cs, hlen with
  | [u0, u1, u2, u3, u4, u5], _ =>
    have g0 := hat 0 (by omega)
    have g1 := hat 1 (by omega)
    have g2 := hat 2 (by omega)
    have g3 := hat 3 (by omega)
    have g4 := hat 4 (by omega)
    have g5 := hat 5 (by omega)
    simp only [hs_int, hs_k, List.drop, List.take] at t0 t1 t2 t3
    obtain ⟨K0, eK0, _, _⟩ := DataW.trod_int Tryd.underlying3 t0
    obtain ⟨K1, eK1, _, _⟩ := DataW.trod_int Tryd.underlying3 t1
    obtain ⟨K2, eK2, _, _⟩ := DataW.trod_int Tryd.underlying3 t2
    obtain ⟨z0, z1, z2, n2, _, _, r0, r1, r2⟩ := Go.Deep.trod_struct3 Tryd.underlying34 t3
    simp only [hs_bool, hs_u64, List.drop, List.take] at r0 r1 r2
    obtain ⟨K3, eK3, _⟩ := DataW.trod_bool Tryd.underlying4 r0
    obtain ⟨K4, eK4, _, w1⟩ := DataW.trod_int Tryd.underlying32 r1
    obtain ⟨K5, eK5, _, w2⟩ := DataW.trod_int Tryd.underlying32 r2
    simp at eK0 eK1 eK2 eK3 eK4 eK5
    subst eK0; subst eK1; subst eK2; subst eK3; subst eK4; subst eK5
    have b1 := u64_wf w1
    have b2 := u64_wf w2
    obtain ⟨N1, rfl⟩ := Int.eq_ofNat_of_zero_le b1.1
    obtain ⟨N2, rfl⟩ := Int.eq_ofNat_of_zero_le b2.1
    obtain ⟨h1, h2⟩ := spot_of g0
    obtain ⟨b, off, spot⟩ := a
    simp only at h1 h2
    subst h1
    rw [addr_add] at g0 g1 g2 g3 g4 g5
    exact ⟨rfl, h2, ⟨K0, K1, K2, ⟨K3, N1, N2⟩⟩, ⟨g0, g1, g2, g3, g4, g5⟩, by unfold WI.fit; simp only; omega⟩

theorem open_code {fuel : Nat} {cs : List Value} {x : DataW H × List MemPlace} (h : DataW.trod enc Tryd.prog W 0 (fun _ => true) true fuel 22 cs = some x) :
    ∃ (p : Option Addr) (c : Nat) (l : List Ins), cs = [.slice p l.length c] ∧ l.length ≤ c ∧ IP W W.heap.size p l ∧ ∀ y ∈ l, y.k.fit := by
  obtain ⟨p, c, l, h1, h2, h3⟩ := open_row Tryd.underlying22 (by kernel_rfl) InsFit (fun a n cs D hc h => open_ins a n cs D hc h) h
  refine ⟨p, c, l, h1, h2, RowP.imp h3 (Nat.le_refl _) (fun _ _ _ _ h => h.1), fun y hy => ?_⟩
  rcases h3 with rfl | ⟨b, off, _, _, hc⟩
  · cases hy
  · obtain ⟨i, hi⟩ := List.getElem?_of_mem hy
    exact (hc i y hi).2

def ExFit (B : Nat) (w : World) (b o : Nat) (x : List Ins) : Prop := ExAt B w b o x ∧ ∀ y ∈ x, y.k.fit

set_option maxRecDepth 100000 in
theorem open_ex (a : Addr) (n : Nat) (cs : List Value) (D : DataW H × List MemPlace) (hc : W.cells? 0 a 1 = some cs) (h : DataW.trod enc Tryd.prog W 0 (fun _ => true) true n 22 cs = some D) :
    a.spot = none ∧ a.block < W.heap.size ∧ ∃ x : List Ins, ExFit W.heap.size W a.block a.off x := by
  obtain ⟨_, hlen, hat⟩ := World.cells?_some hc
  obtain ⟨p, c, l, e1, hlc, hip, hif⟩ := open_code h
  subst e1
  have g0 := hat 0 (by simp)
  obtain ⟨h1, h2⟩ := spot_of g0
  obtain ⟨b, off, spot⟩ := a
  simp only at h1 h2
  subst h1
  rw [addr_add] at g0
  exact ⟨rfl, h2, l, ⟨p, c, g0, hlc, hip⟩, hif⟩
end
end Go.Proofs.YtjebgidddfamlaaDoor

namespace Go.Proofs.YtjebgidddfamlaaDoor
open Go.RowKit
theorem wf_u8C {K : Int} (h : (Lit.int .u8 K).wf = true) : ∃ m : UInt8, K = (m.toNat : Int) := by
  have h : IntKind.u8.min ≤ K ∧ K ≤ IntKind.u8.max := by simpa [Lit.wf] using h
  have h1 : IntKind.u8.min = 0 := by decide
  have h2 : IntKind.u8.max = 255 := by decide
  refine ⟨UInt8.ofNat K.toNat, ?_⟩
  rw [UInt8.toNat_ofNat']
  omega
end Go.Proofs.YtjebgidddfamlaaDoor

namespace Go.Proofs.YtjebgidddfamlaaDoor
open Go.RowKit Go.Proofs.Heap Go.Proofs.Sch Go.Proofs.Wide

theorem exback_true (code : List Ins) (p : Option Addr) (c : Nat) (m : UInt8) (w : World) (_hc : code.length ≤ c) (hf : IP w w.heap.size p code) (hfit : ∀ x ∈ code, x.k.fit) :
    Calls Tryd.prog 3 #[.slice p code.length c, .int .u8 (m.toNat : Int)] w fun e w' => e = .returned (.bool true) ∧ Below w.heap.size w w' :=
  (ex_back code p c m w hfit hf).mono fun _ _ h => ⟨h.1, h.2.below⟩
end Go.Proofs.YtjebgidddfamlaaDoor
