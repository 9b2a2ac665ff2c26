/- What is proved: the sample of the laws of eval: its answers are the document's. (Printed by gen_evawake.py.) -/
import Derived.Test.YtlhdofkgcbmnnaaGreatMEvValue
import Derived.Test.YtlhdofkgcbmnnaaGreatMChk3
import Derived.Test.YtlhdofkgcbmnnaaGreatMSchFind
import Derived.Test.YtlhdofkgcbmnnaaGreatMFput
import Derived.Lib.AppendStr
import Derived.Test.YtlhdofkgcbmnnaaGreatMMapStr
import Derived.Test.YtlhdofkgcbmnnaaGreatMPlain
import Derived.Test.YtlhdofkgcbmnnaaGreatMWideU
import Derived.Test.YtlhdofkgcbmnnaaGreatMWideMul
namespace Go.Proofs.YtlhdofkgcbmnnaaGreat
open Go.RowKit Go.Proofs.Heap Go.Proofs.Sch Go.Proofs.Wide

section
variable {P : Program} {ops : Array Oper}
theorem quiet_eql_e {Q : Act → Prop} {rest : List Oper} {a : Act} {o : Oper} {w : World} (hgd : Region.wanted o (yielded ops a.tmps) = true) (t u : TypeId) (x y : Operand) (xs ys : Array Value) (b : Bool) (ho : o.op = .binOp .eql t x y u) (hx : a.eval x = .agg xs) (hy : a.eval y = .agg ys)
    (hm : P.eqGuardType P.depth t = false) (hl : (binOp .eql t (.agg xs) (.agg ys)).run P w = .ok (.bool b) w) (h : wpQuiet P ops (fun w' => w' = w) Q rest (a.put o.dst (.bool b))) : wpQuiet P ops (fun w' => w' = w) Q (o :: rest) a := by
  refine BigFrame.wpQuiet_want hgd fun K hK => ⟨.bool b, fun w' hw' => ?_, hK _ h⟩
  subst hw'
  have hg := fun (o1 o2 : Operand) => run_eqGuard_agg (P := P) (w := w') .eql t o1 o2 xs ys hm
  unfold Oper.quietAt execOp
  simp [ho, hx, hy, hl, hg]
  exact ⟨rfl, rfl⟩
end
theorem se_eqI (w : World) : (binOp .eql 86 (.agg #[.bool false, .int .u64 0, .int .u64 200]) (.agg #[.bool false, .int .u64 0, .int .u64 200])).run Tryz.prog w = .ok (.bool true) w := by kernel_rfl
theorem ip3E {w : World} {g : Nat} {x y z : Ins} (h : w.heap[g]? = some (.cells ((icl x ++ icl y ++ icl z).toArray) 88 (0, 0))) : IP w w.heap.size (some ⟨g, 0, none⟩) [x, y, z] := by
  refine .inr ⟨g, 0, rfl, lt_of_heap h, fun i u hx => ?_⟩
  match i, hx with
  | 0, hx => injection hx with hx; subst hx; exact ⟨cell_of h rfl, cell_of h rfl, cell_of h rfl, cell_of h rfl, cell_of h rfl, cell_of h rfl⟩
  | 1, hx => injection hx with hx; subst hx; exact ⟨cell_of h rfl, cell_of h rfl, cell_of h rfl, cell_of h rfl, cell_of h rfl, cell_of h rfl⟩
  | 2, hx => injection hx with hx; subst hx; exact ⟨cell_of h rfl, cell_of h rfl, cell_of h rfl, cell_of h rfl, cell_of h rfl, cell_of h rfl⟩
  | j + 3, hx => simp at hx
theorem fp1E {w : World} {g : Nat} {x : Fld} (h : w.heap[g]? = some (.cells #[.string x.name, .int .i64 x.kind, .int .i64 x.count] 83 (0, 0))) : FP w w.heap.size (some ⟨g, 0, none⟩) [x] := by
  refine .inr ⟨g, 0, rfl, lt_of_heap h, fun i u hx => ?_⟩
  match i, hx with
  | 0, hx => injection hx with hx; subst hx; exact ⟨cell_of h rfl, cell_of h rfl, cell_of h rfl⟩
  | j + 1, hx => simp at hx
theorem ep1E {w : World} {g k : Nat} {q : Option Addr} {c : List Ins} (h : w.heap[g]? = some (.cells #[.slice q c.length k] 90 (0, 0))) (hk : c.length ≤ k) (hc : IP w w.heap.size q c) : EP w w.heap.size (some ⟨g, 0, none⟩) [c] := by
  refine .inr ⟨g, 0, rfl, lt_of_heap h, fun i u hx => ?_⟩
  match i, hx with
  | 0, hx => injection hx with hx; subst hx; exact ⟨q, k, cell_of h rfl, hk, hc⟩
  | j + 1, hx => simp at hx
theorem xp1E {w : World} {g : Nat} {x : WI} (h : w.heap[g]? = some (.cells (WC x) 86 (0, 0))) : XP w w.heap.size (some ⟨g, 0, none⟩) [x] := by
  refine .inr ⟨g, 0, rfl, lt_of_heap h, fun i u hx => ?_⟩
  match i, hx with
  | 0, hx => injection hx with hx; subst hx; exact ⟨cell_of h rfl, cell_of h rfl, cell_of h rfl⟩
  | j + 1, hx => simp at hx
theorem up2E {w : World} {Y : Nat} (hY : w.heap[Y]? = some (.cells #[.int .i64 3, .int .i64 1, .slice none 0 0, .int .i64 4, .int .i64 0, .slice none 0 0] 27 (0, 0))) : UP w w.heap.size (some ⟨Y, 0, none⟩) [⟨3, 1, []⟩, ⟨4, 0, []⟩] := by
  refine .inr ⟨Y, 0, rfl, lt_of_heap hY, fun i x hx => ?_⟩
  match i, hx with
  | 0, hx => injection hx with hx; subst hx; exact ⟨cell_of hY rfl, cell_of hY rfl, none, 0, cell_of hY rfl, Nat.le_refl _, .inl rfl⟩
  | 1, hx => injection hx with hx; subst hx; exact ⟨cell_of hY rfl, cell_of hY rfl, none, 0, cell_of hY rfl, Nat.le_refl _, .inl rfl⟩
  | i + 2, hx => simp at hx

set_option maxRecDepth 20000 in
set_option maxHeartbeats 32000000 in
theorem ev_awake (w : World) : Calls Tryz.prog 9 #[] w fun r w' => r = .returned (.bool true) ∧ Keep (fun _ => False) w w' := by
  go_enter Tryz.func9, Tryz.ntmps9
  obtain ⟨w1, hw1, hf1, hc1, hs1, hk1⟩ := box2 w #[.string ⟨#[120]⟩, .int .i64 2, .int .i64 1] #[.int .i64 1, .string ⟨#[97]⟩, .slice (some ⟨w.heap.size, 0, none⟩) 1 1] 83 24
  go_upto_region 2 with fail
  rw [← hw1]
  clear hw1
  obtain ⟨w2, hw2, hf2, hc2, hs2, hk2⟩ := box2 w1 #[.string ⟨#[120]⟩, .int .i64 3, .int .i64 1] #[.int .i64 1, .string ⟨#[97]⟩, .slice (some ⟨w1.heap.size, 0, none⟩) 1 1] 83 24
  have HF1 := hid (hk2.get hf1 (fun e => e)); have HC1 := hid (hk2.get hc1 (fun e => e)); have HF2 := hid hf2; have HC2 := hid hc2; have HK2 := hid (hk1.trans hk2)
  clear hf1 hc1 hs1 hk1 hf2 hc2 hs2 hk2
  go_upto_region 3 with fail
  rw [← hw2]
  clear hw2
  generalize w1.heap.size = ya at *
  generalize w.heap.size = xa at *
  go_wp2_with fail
  refine (w_of 2 (by omega) _).mono ?_
  rintro r w3 ⟨rfl, hk⟩
  obtain ⟨w4, hw4, hi4, hs4, hr4, hz4, hk4⟩ := box3 w3 #[.int .i64 2, .int .i64 0, .int .i64 0, .bool false, .int .u64 0, .int .u64 0, .int .i64 1, .int .i64 0, .int .i64 0, .bool false, .int .u64 0, .int .u64 2, .int .i64 7, .int .i64 0, .int .i64 0, .bool false, .int .u64 0, .int .u64 0] #[.slice (some ⟨w3.heap.size, 0, none⟩) 3 3] #[.int .i64 1, .int .i64 1, .slice (some ⟨w3.heap.size + 1, 0, none⟩) 1 1] 88 90 27
  have HK4 := hid (HK2.out.trans (hk.trans hk4))
  have HC4 : Hid (w4.heap[w3.heap.size]? = some (.cells ((icl ⟨2, 0, 0, zW⟩ ++ icl ⟨1, 0, 0, ⟨false, 0, 2⟩⟩ ++ icl ⟨7, 0, 0, zW⟩).toArray) 88 (0, 0))) := hid hi4
  have HM : Hid (∀ wy, Keep (fun _ => False) w4 wy → FP wy wy.heap.size (some ⟨xa, 0, none⟩) seX ∧ FP wy wy.heap.size (some ⟨ya, 0, none⟩) seY ∧ EP wy wy.heap.size (some ⟨w3.heap.size + 1, 0, none⟩) [seC]) := hid (fun wy hy =>
    ⟨fp1E (x := ⟨⟨#[120]⟩, 2, 1⟩) (((hk.trans hk4).trans hy).get HF1.out (fun e => e)), fp1E (x := ⟨⟨#[120]⟩, 3, 1⟩) (((hk.trans hk4).trans hy).get HF2.out (fun e => e)), ep1E (hy.get hs4 (fun e => e)) (Nat.le_refl _) (ip3E (hy.get HC4.out (fun e => e)))⟩)
  have HB : Hid (∀ wy, Keep (fun _ => False) w4 wy → (wy.cell? ⟨xa + 1, 0, none⟩ = some (.int .i64 1) ∧ wy.cell? ⟨xa + 1, 1, none⟩ = some (.string ⟨#[97]⟩) ∧ wy.cell? ⟨xa + 1, 2, none⟩ = some (.slice (some ⟨xa, 0, none⟩) 1 1)) ∧ (wy.cell? ⟨ya + 1, 0, none⟩ = some (.int .i64 1) ∧ wy.cell? ⟨ya + 1, 1, none⟩ = some (.string ⟨#[97]⟩) ∧ wy.cell? ⟨ya + 1, 2, none⟩ = some (.slice (some ⟨ya, 0, none⟩) 1 1)) ∧ (wy.cell? ⟨w3.heap.size + 1 + 1, 0, none⟩ = some (.int .i64 1) ∧ wy.cell? ⟨w3.heap.size + 1 + 1, 1, none⟩ = some (.int .i64 1) ∧ wy.cell? ⟨w3.heap.size + 1 + 1, 2, none⟩ = some (.slice (some ⟨w3.heap.size + 1, 0, none⟩) 1 1))) := hid (fun wy hy => by
    have h1 := ((hk.trans hk4).trans hy).get HC1.out (fun e => e)
    have h2 := ((hk.trans hk4).trans hy).get HC2.out (fun e => e)
    have h3 := hy.get hr4 (fun e => e)
    exact ⟨⟨cell_of h1 (by rfl), cell_of h1 (by rfl), cell_of h1 (by rfl)⟩, ⟨cell_of h2 (by rfl), cell_of h2 (by rfl), cell_of h2 (by rfl)⟩, cell_of h3 (by rfl), cell_of h3 (by rfl), cell_of h3 (by rfl)⟩)
  clear hk hi4 hs4 hr4 hz4 hk4 HC4 HF1 HC1 HF2 HC2
  go_upto_region 4 with fail
  rw [← hw4]
  clear hw4
  generalize w3.heap.size + 1 + 1 = rb at *
  generalize w3.heap.size + 1 = eb at *
  have HP4 := hid (Keep.refl (fun _ => False) w4)
  have HPD := hid (HP4.out).drew
  refine Plan.wp_region_pl [(false, 0, []), (false, 1, []), (false, 2, []), (true, 3, [2, 1, 0]), (true, 4, [2, 1, 0]), (true, 5, []), (false, 6, []), (false, 7, []), (false, 8, []), (false, 9, []), (false, 10, [])] (by as_aux_lemma => kernel_rfl) (by as_aux_lemma => kernel_rfl) ?_
  generalize w4.drew = wd at *
  obtain ⟨⟨a0, a1, a2⟩, ⟨b0, b1, b2⟩, r0, r1, r2⟩ := HB.out wd HPD.out
  iterate 3 (refine Plan.pl_st rfl ?_; go_big_quiet_step (fail); refine wpQuiet_nil ?_)
  refine Plan.pl_ac rfl ?_
  go_wp2_with fail
  refine (w_of 100 (by omega) _).mono ?_
  rintro r w5 ⟨rfl, hk⟩
  have HP5 := hid (HPD.out.trans hk)
  clear hk
  clear a0 a1 a2 b0 b1 b2 r0 r1 r2
  obtain ⟨⟨a0, a1, a2⟩, ⟨b0, b1, b2⟩, r0, r1, r2⟩ := HB.out w5 HP5.out
  go_wp2
  refine Plan.plQ_mk ?_ ?_
  · iterate 3 (refine Plan.chk_st rfl ?_ ?_; focus (go_big_quiet_step (fail); exact wpQuiet_nil rfl))
    exact Plan.chk_end
  refine Plan.pl_ac rfl ?_
  obtain ⟨w6, hw6, hb6, hs6, hk6⟩ := box1 w5 #[.bool false, .int .u64 0, .int .u64 100] 86
  have HP6 := hid (HP5.out.trans hk6); have HX6 := hid (xp1E (x := ⟨false, 0, 100⟩) hb6)
  clear hb6 hs6 hk6
  clear a0 a1 a2 b0 b1 b2 r0 r1 r2
  go_wp2
  rw [← hw6]
  clear hw6
  obtain ⟨⟨a0, a1, a2⟩, ⟨b0, b1, b2⟩, r0, r1, r2⟩ := HB.out w6 HP6.out
  refine Plan.plQ_mk ?_ ?_
  · iterate 3 (refine Plan.chk_st rfl ?_ ?_; focus (go_big_quiet_step (fail); exact wpQuiet_nil rfl))
    exact Plan.chk_end
  refine Plan.pl_ac rfl ?_
  have HVL := hid (ev_value 1 ⟨#[97]⟩ seX (some ⟨xa, 0, none⟩) 1 1 ⟨#[97]⟩ seY (some ⟨ya, 0, none⟩) 1 1 1 [seC] (some ⟨eb, 0, none⟩) 1 seV (some ⟨w5.heap.size, 0, none⟩) 1 w6 (by decide) (by decide) (by decide) (by decide) se_vfit se_fit (HM.out _ HP6.out).1 (HM.out _ HP6.out).2.1 (HM.out _ HP6.out).2.2 HX6.out)
  rw [se_v1] at HVL
  clear a0 a1 a2 b0 b1 b2 r0 r1 r2
  go_wp2_with fail
  refine HVL.out.mono ?_
  rintro r w7 ⟨va7, vc7, rfl, hown, hk⟩
  have HP7 := hid (HP6.out.trans hk)
  have HV7 := hid hown
  clear hk hown HVL
  go_wp2
  refine Plan.plQ_mk Plan.chk_end ?_
  iterate 5 (refine Plan.pl_st rfl ?_; go_big_quiet_step (fail); refine wpQuiet_nil ?_)
  refine Plan.pl_end ?_
  clear HPD
  have HK7 := hid (HK4.out.trans HP7.out)
  have HB7 := hid (fun (wy : World) (hy : Keep (fun _ => False) w7 wy) => HB.out wy (HP7.out.trans hy))
  have HM7 := hid (fun (wy : World) (hy : Keep (fun _ => False) w7 wy) => HM.out wy (HP7.out.trans hy))
  clear HB HM HK4 HP4 HP5 HP6 HX6 HP7
  have HB := HB7; have HM := HM7
  clear HB7 HM7
  have HP7 := hid (Keep.refl (fun _ => False) w7)
  go_upto_region 5 with fail
  have HPD := hid (HP7.out).drew
  refine Plan.wp_region_pl [(false, 0, []), (false, 1, []), (false, 2, []), (true, 3, [2, 1, 0]), (true, 4, [2, 1, 0]), (true, 5, []), (false, 6, []), (false, 7, []), (false, 8, []), (false, 9, []), (false, 10, [])] (by as_aux_lemma => kernel_rfl) (by as_aux_lemma => kernel_rfl) ?_
  generalize w7.drew = wd at *
  obtain ⟨⟨a0, a1, a2⟩, ⟨b0, b1, b2⟩, r0, r1, r2⟩ := HB.out wd HPD.out
  iterate 3 (refine Plan.pl_st rfl ?_; go_big_quiet_step (fail); refine wpQuiet_nil ?_)
  refine Plan.pl_ac rfl ?_
  go_wp2_with fail
  refine (w_of 100 (by omega) _).mono ?_
  rintro r w8 ⟨rfl, hk⟩
  have HP8 := hid (HPD.out.trans hk)
  clear hk
  clear a0 a1 a2 b0 b1 b2 r0 r1 r2
  obtain ⟨⟨a0, a1, a2⟩, ⟨b0, b1, b2⟩, r0, r1, r2⟩ := HB.out w8 HP8.out
  go_wp2
  refine Plan.plQ_mk ?_ ?_
  · iterate 3 (refine Plan.chk_st rfl ?_ ?_; focus (go_big_quiet_step (fail); exact wpQuiet_nil rfl))
    exact Plan.chk_end
  refine Plan.pl_ac rfl ?_
  obtain ⟨w9, hw9, hb9, hs9, hk9⟩ := box1 w8 #[.bool false, .int .u64 0, .int .u64 100] 86
  have HP9 := hid (HP8.out.trans hk9); have HX9 := hid (xp1E (x := ⟨false, 0, 100⟩) hb9)
  clear hb9 hs9 hk9
  clear a0 a1 a2 b0 b1 b2 r0 r1 r2
  go_wp2
  rw [← hw9]
  clear hw9
  obtain ⟨⟨a0, a1, a2⟩, ⟨b0, b1, b2⟩, r0, r1, r2⟩ := HB.out w9 HP9.out
  refine Plan.plQ_mk ?_ ?_
  · iterate 3 (refine Plan.chk_st rfl ?_ ?_; focus (go_big_quiet_step (fail); exact wpQuiet_nil rfl))
    exact Plan.chk_end
  refine Plan.pl_ac rfl ?_
  have HVL := hid (ev_value 1 ⟨#[97]⟩ seX (some ⟨xa, 0, none⟩) 1 1 ⟨#[97]⟩ seX (some ⟨xa, 0, none⟩) 1 1 1 [seC] (some ⟨eb, 0, none⟩) 1 seV (some ⟨w8.heap.size, 0, none⟩) 1 w9 (by decide) (by decide) (by decide) (by decide) se_vfit se_fit (HM.out _ HP9.out).1 (HM.out _ HP9.out).1 (HM.out _ HP9.out).2.2 HX9.out)
  rw [se_v2] at HVL
  clear a0 a1 a2 b0 b1 b2 r0 r1 r2
  go_wp2_with fail
  refine HVL.out.mono ?_
  rintro r w10 ⟨va10, vc10, rfl, hown, hk⟩
  have HP10 := hid (HP9.out.trans hk)
  clear hk hown HVL
  go_wp2
  refine Plan.plQ_mk Plan.chk_end ?_
  iterate 5 (refine Plan.pl_st rfl ?_; go_big_quiet_step (fail); refine wpQuiet_nil ?_)
  refine Plan.pl_end ?_
  clear HPD
  go_upto_region 6 with fail
  obtain ⟨⟨a0, a1, a2⟩, ⟨b0, b1, b2⟩, r0, r1, r2⟩ := HB.out w10 HP10.out
  have HRW := hid (ev_row 1 ⟨#[97]⟩ seX (some ⟨xa, 0, none⟩) 1 1 ⟨#[97]⟩ seY (some ⟨ya, 0, none⟩) 1 1 1 [seC] (some ⟨eb, 0, none⟩) 1 ⟨#[100]⟩ w10 (by decide) (by decide) (by decide) (by decide) (by decide) se_fit (HM.out _ HP10.out).1 (HM.out _ HP10.out).2.1 (HM.out _ HP10.out).2.2)
  rw [se_row] at HRW
  go_wp2_with fail
  refine HRW.out.mono ?_
  rintro r w11 ⟨rfl, hk⟩
  have HP11 := hid (HP10.out.trans hk)
  clear hk HRW
  clear a0 a1 a2 b0 b1 b2 r0 r1 r2
  go_upto_region 7 with fail
  have HPD := hid HP11.out.drew
  refine Plan.wp_region_pl [(false, 0, []), (false, 1, []), (false, 2, []), (false, 3, []), (false, 4, []), (false, 5, []), (false, 6, []), (false, 7, []), (false, 8, []), (false, 9, []), (false, 10, []), (true, 11, [10, 9, 8]), (false, 12, []), (false, 13, []), (false, 14, []), (false, 15, []), (false, 16, []), (false, 17, []), (false, 18, []), (false, 19, []), (false, 20, []), (false, 21, []), (false, 22, []), (false, 23, []), (false, 24, []), (false, 25, []), (false, 26, []), (false, 27, []), (false, 28, []), (true, 29, []), (false, 30, []), (true, 31, []), (false, 32, []), (false, 33, []), (false, 34, [])] (by as_aux_lemma => kernel_rfl) (by as_aux_lemma => kernel_rfl) ?_
  generalize w11.drew = wd at *
  obtain ⟨vg, rfl⟩ := owns_some HV7.out (by decide)
  have HVD := hid (owns_keep HV7.out (fun j hj => HPD.out.block j (HV7.out.lt j hj).2 (fun e => e)))
  have v0 := owns3_cell wcl_len HVD.out (l := [⟨false, 0, 200⟩]) (i := 0) rfl (r := 0) (u := .bool false) rfl
  have v1 := owns3_cell wcl_len HVD.out (l := [⟨false, 0, 200⟩]) (i := 0) rfl (r := 1) (u := .int .u64 0) rfl
  have v2 := owns3_cell wcl_len HVD.out (l := [⟨false, 0, 200⟩]) (i := 0) rfl (r := 2) (u := .int .u64 200) rfl
  iterate 11 (refine Plan.pl_st rfl ?_; go_big_quiet_step (fail); refine wpQuiet_nil ?_)
  refine Plan.pl_ac rfl ?_
  go_wp2_with fail
  refine (w_of 200 (by omega) _).mono ?_
  rintro r w12 ⟨rfl, hk⟩
  have HP12 := hid (HPD.out.trans hk)
  clear hk v0 v1 v2 HVD
  have HVD := hid (owns_keep HV7.out (fun j hj => HP12.out.block j (HV7.out.lt j hj).2 (fun e => e)))
  have v0 := owns3_cell wcl_len HVD.out (l := [⟨false, 0, 200⟩]) (i := 0) rfl (r := 0) (u := .bool false) rfl
  have v1 := owns3_cell wcl_len HVD.out (l := [⟨false, 0, 200⟩]) (i := 0) rfl (r := 1) (u := .int .u64 0) rfl
  have v2 := owns3_cell wcl_len HVD.out (l := [⟨false, 0, 200⟩]) (i := 0) rfl (r := 2) (u := .int .u64 200) rfl
  go_wp2
  refine Plan.plQ_mk ?_ ?_
  · iterate 3 (refine Plan.chk_st rfl ?_ ?_; focus (go_big_quiet_step (fail); exact wpQuiet_nil rfl))
    exact Plan.chk_end
  refine Plan.pl_st rfl ?_
  refine quiet_eql_e rfl _ _ _ _ _ _ _ rfl (by rfl) (by rfl) (by kernel_rfl) (se_eqI _) ?_
  simp only [Act.put, List.setIfInBounds_toArray, List.set_cons_succ, List.set_cons_zero]
  refine wpQuiet_nil ?_
  iterate 16 (refine Plan.pl_st rfl ?_; go_big_quiet_step (fail); refine wpQuiet_nil ?_)
  refine Plan.pl_ac rfl ?_
  obtain ⟨w13, hw13, hb13, hs13, hk13⟩ := box1 w12 #[.int .i64 3, .int .i64 1, .slice none 0 0, .int .i64 4, .int .i64 0, .slice none 0 0] 27
  have HP13 := hid (HP12.out.trans hk13); have HU13 := hid (up2E hb13)
  clear hb13 hs13 hk13
  go_wp2
  rw [← hw13]
  clear hw13
  refine Plan.plQ_mk Plan.chk_end ?_
  iterate 1 (refine Plan.pl_st rfl ?_; go_big_quiet_step (fail); refine wpQuiet_nil ?_)
  refine Plan.pl_ac rfl ?_
  have HSI := hid (ev_sig 0 0 [⟨3, 1, []⟩, ⟨4, 0, []⟩] (some ⟨w12.heap.size, 0, none⟩) 2 2 (by decide) w13 (by decide) HU13.out)
  rw [se_sig] at HSI
  go_wp2_with fail
  refine HSI.out.mono ?_
  rintro r w14 ⟨rfl, hk⟩
  have HP14 := hid (HP13.out.trans hk)
  clear hk HSI
  go_wp2
  refine Plan.plQ_mk Plan.chk_end ?_
  iterate 3 (refine Plan.pl_st rfl ?_; go_big_quiet_step (fail); refine wpQuiet_nil ?_)
  refine Plan.pl_end ?_
  have HKF := hid (HK7.out.trans HP14.out)
  go_wp2
  go_ret
  exact ⟨rfl, HKF.out⟩
end Go.Proofs.YtlhdofkgcbmnnaaGreat

namespace Go.Proofs.Sch

/-- The 32 bits of a number. -/
def bitsL (n : Nat) : List Bool := (List.range 32).map n.testBit
theorem bitsL_len (n : Nat) : (bitsL n).length = 32 := by unfold bitsL; rw [List.length_map, List.length_range]
theorem bitsL_at {n i : Nat} (h : i < 32) : (bitsL n)[i]? = some (n.testBit i) := by
  unfold bitsL
  rw [List.getElem?_map, List.getElem?_range h]; rfl
theorem tb_mod (n i : Nat) : n.testBit i = decide (n / 2 ^ i % 2 = 1) := Nat.testBit_eq_decide_div_mod_eq
theorem tb_high {n i : Nat} (h : n < 4294967296) (hi : 32 ≤ i) : n.testBit i = false := by
  apply Nat.testBit_lt_two_pow
  exact Nat.lt_of_lt_of_le h (by
    have : (2 : Nat) ^ 32 ≤ 2 ^ i := Nat.pow_le_pow_right (by omega) hi
    simpa using this)
theorem tb_out : ∀ i, i < 32 → Nat.testBit 4261412865 i = decide (i < 1 ∨ 24 < i) := by decide +kernel
theorem tb_in : ∀ i, i < 32 → Nat.testBit 33554430 i = decide (1 ≤ i ∧ i ≤ 24) := by decide +kernel
theorem zero_tb {n : Nat} (h : n < 4294967296) : n = 0 ↔ ∀ i, i < 32 → n.testBit i = false := by
  constructor
  · rintro rfl i _; exact Nat.zero_testBit i
  · intro h2
    apply Nat.eq_of_testBit_eq
    intro i
    rw [Nat.zero_testBit]
    by_cases hi : i < 32
    · exact h2 i hi
    · exact tb_high h (by omega)
theorem isSig_bits {n : Nat} (h : n < 4294967296) : isSig n = true ↔ ∀ i, i < 32 → n.testBit i = true → 1 ≤ i ∧ i ≤ 24 := by
  unfold isSig
  rw [decide_eq_true_iff, zero_tb (Nat.lt_of_le_of_lt Nat.and_le_left h)]
  constructor
  · intro h2 i hi hb
    have := h2 i hi
    rw [Nat.testBit_and, hb, Bool.true_and, tb_out i hi] at this
    have := of_decide_eq_false this
    omega
  · intro h2 i hi
    rw [Nat.testBit_and, tb_out i hi]
    cases hb : n.testBit i
    · rfl
    · have := h2 i hi hb
      rw [Bool.true_and, decide_eq_false (by omega)]
theorem meets_bits {a b : Nat} (ha : a < 4294967296) (hs : isSig a = true) : meetsB a b = true ↔ ∃ i, i < 32 ∧ a.testBit i = true ∧ b.testBit i = true := by
  have hlt : a &&& b &&& 33554430 < 4294967296 := Nat.lt_of_le_of_lt Nat.and_le_left (Nat.lt_of_le_of_lt Nat.and_le_left ha)
  unfold meetsB
  rw [decide_eq_true_iff, ne_eq, zero_tb hlt]
  constructor
  · intro h
    apply Classical.byContradiction
    intro h2
    refine h fun i hi => ?_
    rw [Nat.testBit_and, Nat.testBit_and]
    cases h3 : a.testBit i
    · simp
    · cases h4 : b.testBit i
      · simp
      · exact absurd ⟨i, hi, h3, h4⟩ h2
  · rintro ⟨i, hi, h1, h2⟩ h
    have := h i hi
    have h3 := (isSig_bits ha).1 hs i hi h1
    rw [Nat.testBit_and, Nat.testBit_and, h1, h2, tb_in i hi, decide_eq_true h3] at this
    cases this
end Go.Proofs.Sch

namespace Go.Proofs.YtlhdofkgcbmnnaaGreat
open Go.RowKit Go.Proofs.Heap Go.Proofs.Sch

theorem within_bits {s t : Nat} (ht : t < 4294967296) : withinB s t = true ↔ ∀ i, 1 ≤ i → i ≤ 24 → s.testBit i = true → t.testBit i = true := by
  have hlt : s &&& 33554430 &&& (4294967295 - t) < 4294967296 := Nat.lt_of_le_of_lt Nat.and_le_right (by omega)
  have hs : ∀ i, i < 32 → Nat.testBit (4294967295 - t) i = !t.testBit i := by
    intro i hi
    have h := Nat.testBit_two_pow_sub_succ (x := t) (n := 32) (by simpa using ht) i
    rw [show (2 : Nat) ^ 32 - (t + 1) = 4294967295 - t by omega] at h
    rw [h, decide_eq_true hi, Bool.true_and]
  unfold withinB
  rw [decide_eq_true_iff, zero_tb hlt]
  constructor
  · intro h i h1 h2 hb
    have := h i (by omega)
    rw [Nat.testBit_and, Nat.testBit_and, hb, tb_in i (by omega), hs i (by omega), decide_eq_true (show 1 ≤ i ∧ i ≤ 24 from ⟨h1, h2⟩)] at this
    cases h3 : t.testBit i
    · rw [h3] at this; cases this
    · rfl
  · intro h i hi
    rw [Nat.testBit_and, Nat.testBit_and, tb_in i hi, hs i hi]
    by_cases h1 : 1 ≤ i ∧ i ≤ 24
    · cases hb : s.testBit i
      · simp
      · rw [h i h1.1 h1.2 hb]; simp
    · rw [decide_eq_false h1]; simp
end Go.Proofs.YtlhdofkgcbmnnaaGreat

namespace Go.Proofs.YtlhdofkgcbmnnaaGreat
open Go.RowKit Go.Proofs.Heap Go.Proofs.Sch

section
variable {P : Program}
/-- A string behind an owned row: where the new row lies. -/
theorem append_str_at (w : World) (base : Nat) (t u ty e : TypeId) (i : TypeInfo) (ht : P.underlying t = some (.slice e)) (hu : P.underlying u = some .string) (hi : P.info? e = some i) (hz : i.zero = some (.int .u8 0))
    (hsize : i.size = 1) (hby : i.bytes = 1) (v : Value) (n : Nat) (xs : List Value) (hown : w.ownsRow base e 1 v n xs) (s : ByteArray) (h63 : n + s.size ≤ 140737488355328) (hbase : base ≤ w.heap.size) :
    ∃ v' w', (Builtin.append_ #[t, u] ty #[v, .string s]).run P w = .ok v' w' ∧ w'.ownsRow base e 1 v' (n + s.size) (xs ++ Lib.strCells s) ∧ w.grownBy w' v.ownBlock ∧ (∀ g, v'.ownBlock = some g → v.ownBlock = some g ∨ w.heap.size ≤ g) := by
  have h64 : n + s.size ≤ maxLen := by unfold maxLen; omega
  obtain ⟨v', w', hr, h2, h3, _⟩ := Lib.run_append_own_string (P := P) w base t u ty e i ht hu hi hz hsize hby v n xs hown s h64 h63 hbase
  refine ⟨v', w', hr, h2, h3, fun g' hg' => ?_⟩
  rcases owns_block hown with ⟨rfl, rfl, rfl⟩ | ⟨g, cap, cur, rfl, hbg, hg, hnc, hcm, hcs, htk⟩
  · obtain ⟨v2, w2, hr2, k2, _, _⟩ := Lib.run_append_own_string (P := P) w w.heap.size t u ty e i ht hu hi hz hsize hby (.slice none 0 0) 0 [] (World.ownsRow_nil w _ e 1) s h64 h63 (Nat.le_refl _)
    rw [hr] at hr2
    injection hr2 with e1 e2
    subst e1
    exact .inr (k2.lt g' hg').1
  · by_cases hroom : n + s.size ≤ cap
    · have hr2 := Lib.run_append_room_string (P := P) w t u ty e i ht hu hi hsize g n cap cur hg s hroom (by omega)
      rw [hr] at hr2
      injection hr2 with e1 e2
      subst e1
      exact .inl hg'
    · have hr2 := Lib.run_append_grow_string (P := P) w t u ty e i (.int .u8 0) ht hu hi hz ⟨g, 0, none⟩ n cap xs (by rw [hsize]; exact hown.1) (hown.cells (g := g) rfl) s (by omega) (by omega) (by rw [hby]; exact growslice_fits (by omega) (by omega))
      rw [hr] at hr2
      injection hr2 with e1 e2
      subst e1
      right
      simp [Value.ownBlock] at hg'
      omega
theorem wpList_append_str {w : World} {ops : Array Oper} {rest : List Oper} {o : Oper} {a : Act} {Q : Exit → Act → World → Prop} (hgd : o.guard = none) (sl x : Operand) (t u : TypeId)
    (ho : o.op = .call { callee := .builtin .append, args := #[sl, x], argTypes := #[t, u] })
    (base : Nat) (e : TypeId) (i : TypeInfo) (ht : P.underlying t = some (.slice e)) (hu : P.underlying u = some .string) (hi : P.info? e = some i) (hz : i.zero = some (.int .u8 0))
    (hsize : i.size = 1) (hby : i.bytes = 1)
    (v : Value) (n : Nat) (xs : List Value) (hs : a.eval sl = v) (hown : w.ownsRow base e 1 v n xs) (s : ByteArray) (hx : a.eval x = .string s)
    (h63 : n + s.size ≤ 140737488355328) (hbase : base ≤ w.heap.size)
    (h : ∀ v' w', w'.ownsRow base e 1 v' (n + s.size) (xs ++ Lib.strCells s) → w.grownBy w' v.ownBlock → (∀ g, v'.ownBlock = some g → v.ownBlock = some g ∨ w.heap.size ≤ g) → wpList P ops Q rest (a.put o.dst v') w') : wpList P ops Q (o :: rest) a w := by
  refine wpList_plain hgd fun K hK => ?_
  obtain ⟨v', w', hr, h2, h3, h4⟩ := append_str_at (P := P) w base t u o.type e i ht hu hi hz hsize hby v n xs hown s h63 hbase
  unfold Oper.wp execOp
  simp only [ho, resolve, invoke, builtin, Sem.run_bind, Sem.run_pure, Result.andThen_ok, List.map_toArray, List.map_cons, List.map_nil, hs, hx, hr]
  exact hK _ _ (h v' w' h2 h3 h4)
end
theorem WrN.trans {w w1 w2 : World} {base q : Nat} {sv sv1 sv2 : Value} {l1 l2 : List UInt8} (h : WrN w w1 base q sv sv1 l1) (h2 : WrN w1 w2 base q sv1 sv2 l2) (hq : q < w.heap.size) : WrN w w2 base q sv sv2 l2 := by
  refine ⟨h2.st, ?_, fun g hg => ?_⟩
  · refine ⟨h2.keep.os.trans h.keep.os, h2.keep.tape.trans h.keep.tape, h2.keep.output.trans h.keep.output, Nat.le_trans h.keep.size h2.keep.size, fun k hk hs => ?_⟩
    refine (h2.keep.block k (Nat.lt_of_lt_of_le hk h.keep.size) (fun e => ?_)).trans (h.keep.block k hk hs)
    rcases e with rfl | e
    · exact hs (.inl rfl)
    · rcases h.own k e with e | e
      · exact hs (.inr e)
      · omega
  · rcases h2.own g hg with e | e
    · exact h.own g e
    · exact .inr (Nat.le_trans h.keep.size e)
theorem WrN.refl {w : World} {base q : Nat} {sv : Value} {l : List UInt8} (h : WrS w base q sv l) : WrN w w base q sv sv l := ⟨h, Keep.refl _ _, fun _ hg => .inl hg⟩
theorem wr_ne {w : World} {base q : Nat} {sv : Value} {n : Nat} {xs : List Value} {c : Array Value} (h : w.ownsRow base 5 1 sv n xs) (hq : w.heap[q]? = some (.cells c 216 (0, 0))) : sv.ownBlock ≠ some q := by
  intro e
  rcases owns_block h with ⟨rfl, _⟩ | ⟨g, cap, cur, rfl, _, hg, _⟩
  · simp [Value.ownBlock] at e
  · simp [Value.ownBlock] at e
    subst e
    rw [hg] at hq
    injection hq with hq
    injection hq with _ hq
    exact absurd hq (by decide)

/-- A short text's bytes. -/
def nameL (s : ByteArray) : List UInt8 := leL 1 s.size ++ s.data.toList
theorem nameL_len (s : ByteArray) : (nameL s).length = s.size + 1 := by unfold nameL; rw [List.length_append, leL_len, Array.length_toList]; exact Nat.add_comm _ _
/-- Whether a short text can be read. -/
def nmOk (s : ByteArray) : Prop := 1 ≤ s.size ∧ 1 + firstN s 1 ≤ s.size
instance (s : ByteArray) : Decidable (nmOk s) := by unfold nmOk; exact inferInstance
end Go.Proofs.YtlhdofkgcbmnnaaGreat

namespace Go.Proofs.YtlhdofkgcbmnnaaGreat
open Go.RowKit Go.Proofs.Heap Go.Proofs.Sch

/-- An int's 64 bits, as a number. -/
def u64N (k : Int) : Nat := (k % 18446744073709551616).toNat
theorem u64N_eq (k : Int) : IntKind.u64.wrap k = (u64N k : Int) := by
  unfold u64N
  simp [IntKind.wrap, IntKind.bits, IntKind.signed]
  omega
theorem u64N_lt (k : Int) : u64N k < 18446744073709551616 := by unfold u64N; omega
theorem u64N_nat {n : Nat} (h : n < 18446744073709551616) : u64N (n : Int) = n := by unfold u64N; omega
theorem u64N_pos {k : Int} (h0 : 0 ≤ k) (h : k < 18446744073709551616) : u64N k = k.toNat := by unfold u64N; omega
theorem flat_next {α : Type} (f : α → List UInt8) {l : List α} {k : Nat} {x : α} (h : l[k]? = some x) : (l.take (k + 1)).flatMap f = (l.take k).flatMap f ++ f x := by
  rw [take_next h, List.flatMap_append]; simp
/-- What is left, and whether it is bad. -/
abbrev St := ByteArray × Bool
def rdN (wd : Nat) (st : St) : Nat × St := if st.2 = false ∧ wd ≤ st.1.size then (firstN st.1 wd, (st.1.extract wd st.1.size, false)) else (0, (st.1, true))
def rdNm (st : St) : ByteArray × St := if st.2 = false ∧ nmOk st.1 then (st.1.extract 1 (1 + firstN st.1 1), (st.1.extract (1 + firstN st.1 1) st.1.size, false)) else (⟨#[]⟩, (st.1, true))
theorem rdN_lt (wd : Nat) (st : St) : (rdN wd st).1 < 256 ^ wd := by
  unfold rdN
  split
  · exact firstN_lt _ _
  · exact Nat.pow_pos (by decide)
theorem rdN_size (wd : Nat) (st : St) : (rdN wd st).2.1.size ≤ st.1.size := by
  unfold rdN
  split
  · rw [ByteArray.size_extract]; omega
  · exact Nat.le_refl _
theorem rdNm_size (st : St) : (rdNm st).2.1.size ≤ st.1.size := by
  unfold rdNm
  split
  · rw [ByteArray.size_extract]; omega
  · exact Nat.le_refl _
theorem rd_num (b : Nat) (st : St) (wd : Nat) (hwd : WideOk wd) (w : World) (hs : st.1.size ≤ 9223372036854775807) (h : RdS w b st.1 st.2) :
    Calls Tryz.prog 120 #[.pointer (some ⟨b, 0, none⟩), .int .i64 (wd : Int)] w fun r w' => r = .returned (.int .u64 ((rdN wd st).1 : Int)) ∧ RdS w' b (rdN wd st).2.1 (rdN wd st).2.2 ∧ Keep (fun g => g = b) w w' := by
  obtain ⟨s, bad⟩ := st
  by_cases hc : bad = false ∧ wd ≤ s.size
  · have e : rdN wd (s, bad) = (firstN s wd, (s.extract wd s.size, false)) := if_pos hc
    rw [e]
    obtain ⟨rfl, hle⟩ := hc
    exact rd_num_yes b s wd hwd w hs hle h
  · have e : rdN wd (s, bad) = (0, (s, true)) := if_neg hc
    rw [e]
    refine rd_num_no b s bad wd hwd w hs ?_ h
    cases bad
    · right; simp at hc; omega
    · exact .inl rfl
def rdRow {α : Type} (f : St → α × St) : Nat → St → List α × St
  | 0, st => ([], st)
  | n + 1, st => if st.2 = true then ([], st) else ((f st).1 :: (rdRow f n (f st).2).1, (rdRow f n (f st).2).2)
theorem rdRow_bad {α : Type} (f : St → α × St) (n : Nat) {st : St} (h : st.2 = true) : rdRow f n st = ([], st) := by
  cases n
  · rfl
  · rw [rdRow, if_pos h]
theorem rdRow_next {α : Type} (f : St → α × St) (n : Nat) {st : St} (h : st.2 = false) : rdRow f (n + 1) st = ((f st).1 :: (rdRow f n (f st).2).1, (rdRow f n (f st).2).2) := by
  rw [rdRow, if_neg (by rw [h]; simp)]
theorem rdRow_len {α : Type} (f : St → α × St) : ∀ (n : Nat) (st : St), (rdRow f n st).1.length ≤ n
  | 0, _ => Nat.le_refl _
  | n + 1, st => by
    rw [rdRow]
    split
    · simp
    · simp only [List.length_cons]; have := rdRow_len f n (f st).2; omega
end Go.Proofs.YtlhdofkgcbmnnaaGreat

namespace Go.Proofs.YtlhdofkgcbmnnaaGreat
open Go.RowKit Go.Proofs.Heap Go.Proofs.Sch

theorem results_2z {fn : Func} {p u : Tmp} (h : fn.results = #[.tmp p, .tmp u]) (tmps : Array Value) {P : Program} {w : World} : (results fn tmps).run P w = .ok (.tuple #[tmps.getD p undef, tmps.getD u undef]) w := by
  simp [results, h]
theorem u64_natZ (n : Nat) (h : n < 18446744073709551616) : IntKind.u64.wrap (n : Int) = (n : Int) := by rw [u64N_eq, u64N_nat h]
/-- What lies below a writer stays as it is. -/
theorem WrN.low {w w' : World} {q : Nat} {sv sv' : Value} {l : List UInt8} (hs : ∀ g, sv.ownBlock = some g → q ≤ g) (h : WrN w w' q q sv sv' l) (hq : q < w.heap.size) : Low q w w' := fun b hb =>
  h.keep.block b (by omega) (fun e => by
    rcases e with e | e
    · omega
    · have := hs _ e; omega)
theorem WrS.from {w : World} {q : Nat} {sv : Value} {l : List UInt8} (h : WrS w q q sv l) : ∀ g, sv.ownBlock = some g → q ≤ g := fun g hg => (h.own.lt g hg).1
/-- A new block keeps a writer. -/
theorem WrN.more {w wr wx : World} {q : Nat} {sv svk : Value} {l : List UInt8} (h : WrN w wr q q sv svk l) (hk : Keep (fun _ => False) wr wx) : WrN w wx q q sv svk l := by
  have hlt : ∀ g, svk.ownBlock = some g → wx.heap[g]? = wr.heap[g]? := fun g hg => hk.block g (h.st.own.lt g hg).2 id
  exact ⟨⟨(hk.block q (lt_of_heap h.st.block) id).trans h.st.block, owns_keep h.st.own hlt, h.st.ne, h.st.base⟩, h.keep.trans (hk.mono (fun _ _ e => e.elim)), h.own⟩

theorem flat_le {α : Type} (f : α → List UInt8) (m : Nat) : ∀ {l : List α}, (∀ x ∈ l, (f x).length ≤ m) → (l.flatMap f).length ≤ l.length * m
  | [], _ => by simp
  | a :: r, h => by
    rw [List.flatMap_cons, List.length_append, List.length_cons, Nat.succ_mul]
    have h1 := h a (by simp)
    have h2 := flat_le f m (l := r) (fun x hx => h x (by simp [hx]))
    omega
end Go.Proofs.YtlhdofkgcbmnnaaGreat

namespace Go.Proofs.YtlhdofkgcbmnnaaGreat
open Go.RowKit Go.Proofs.Heap Go.Proofs.Sch Go.Proofs.Wide

/-- An instruction's bytes. -/
def insL (x : Ins) : List UInt8 := leL 1 (u64N x.op) ++ (if x.op = 1 then leL 1 (if x.k.neg = true then 1 else 0) ++ leL 8 x.k.lo ++ leL 8 x.k.hi else if x.op = 2 then leL 1 (u64N x.a) ++ leL 1 (u64N x.b) else if x.op = 3 then leL 1 (u64N x.a) else [])
theorem insL_len (x : Ins) : (insL x).length ≤ 18 := by
  unfold insL
  rw [List.length_append, leL_len]
  repeat' split
  all_goals simp [leL_len]
/-- A formula's bytes. -/
def expL (code : List Ins) : List UInt8 := leL 1 code.length ++ code.flatMap insL
def expS (code : List Ins) : ByteArray := if encC code = 0 then ⟨(expL code).toArray⟩ else ⟨#[]⟩
/-- An instruction read: it, and whether its sign can be. -/
def rdI (st : St) : (Ins × Bool) × St :=
  if (rdN 1 st).1 = 1 then
    let g := rdN 1 (rdN 1 st).2
    let lo := rdN 8 g.2
    let hi := rdN 8 lo.2
    ((⟨1, 0, 0, ⟨decide (g.1 = 1), hi.1, lo.1⟩⟩, decide (g.1 ≤ 1)), hi.2)
  else if (rdN 1 st).1 = 2 then
    let a := rdN 1 (rdN 1 st).2
    let b := rdN 1 a.2
    ((⟨2, a.1, b.1, zW⟩, true), b.2)
  else if (rdN 1 st).1 = 3 then
    let a := rdN 1 (rdN 1 st).2
    ((⟨3, a.1, 0, zW⟩, true), a.2)
  else ((⟨(rdN 1 st).1, 0, 0, zW⟩, true), (rdN 1 st).2)
end Go.Proofs.YtlhdofkgcbmnnaaGreat

namespace Go.Proofs.YtlhdofkgcbmnnaaGreat
open Go.RowKit Go.Proofs.Heap Go.Proofs.Sch

/-- Bytes of a list. -/
def bsB (l : List UInt8) : ByteArray := ⟨l.toArray⟩
theorem bs_list (l : List UInt8) : (bsB l).data.toList = l := rfl
theorem bs_of (s : ByteArray) : bsB s.data.toList = s := by cases s; rfl
theorem bs_size (l : List UInt8) : (bsB l).size = l.length := by simp [bsB, ByteArray.size]
theorem bs_ext (l : List UInt8) (a b : Nat) : (bsB l).extract a b = bsB ((l.drop a).take (b - a)) := by
  unfold bsB
  apply ByteArray.ext
  rw [ByteArray.data_extract]
  apply Array.toList_inj.1
  rw [Array.toList_extract, List.extract_eq_take_drop]
theorem bs_drop (l : List UInt8) (a : Nat) : (bsB l).extract a (bsB l).size = bsB (l.drop a) := by
  rw [bs_ext, bs_size, List.take_of_length_le (by rw [List.length_drop]; omega)]
theorem bs_inj {a b : List UInt8} (h : bsB a = bsB b) : a = b := by rw [← bs_list a, h, bs_list]

theorem rdN_app {wd n : Nat} (h : n < 256 ^ wd) (r : List UInt8) : rdN wd (bsB (leL wd n ++ r), false) = (n, (bsB r, false)) := by
  have h1 : firstN (bsB (leL wd n ++ r)) wd = n := by
    unfold firstN
    rw [bs_list, List.take_append_of_le_length (by rw [leL_len]; omega), List.take_of_length_le (by rw [leL_len]; omega), leN_leL, Nat.mod_eq_of_lt h]
  have h2 : (leL wd n ++ r).drop wd = r := by
    rw [List.drop_append_of_le_length (by rw [leL_len]; omega), List.drop_of_length_le (by rw [leL_len]; omega)]; rfl
  unfold rdN
  rw [if_pos ⟨rfl, by rw [bs_size, List.length_append, leL_len]; exact Nat.le_add_right _ _⟩]
  simp only [bs_drop, h1, h2]
theorem rdN_un {wd : Nat} {st : St} {n : Nat} {s' : ByteArray} (h : rdN wd st = (n, (s', false))) : st.2 = false ∧ st.1.data.toList = leL wd n ++ s'.data.toList := by
  obtain ⟨s, bad⟩ := st
  obtain ⟨l, rfl⟩ : ∃ l, s = bsB l := ⟨_, (bs_of s).symm⟩
  unfold rdN at h
  split at h
  next hc =>
    obtain ⟨h0, hle⟩ := hc
    simp only [bs_drop, Prod.mk.injEq, and_true] at h
    obtain ⟨rfl, rfl⟩ := h
    refine ⟨h0, ?_⟩
    simp only [bs_size] at hle
    have h3 := leL_leN (l.take wd)
    rw [List.length_take, Nat.min_eq_left hle] at h3
    unfold firstN
    rw [bs_list, bs_list, h3, List.take_append_drop]
  · simp only [Prod.mk.injEq, Bool.true_eq_false, and_false] at h
theorem rdNm_app {t : ByteArray} (h : t.size < 256) (r : List UInt8) : rdNm (bsB (nameL t ++ r), false) = (t, (bsB r, false)) := by
  obtain ⟨l, rfl⟩ : ∃ l, t = bsB l := ⟨_, (bs_of t).symm⟩
  rw [bs_size] at h
  have hL : nameL (bsB l) ++ r = leL 1 l.length ++ (l ++ r) := by unfold nameL; rw [bs_list, bs_size, List.append_assoc]
  rw [hL]
  have h1 : firstN (bsB (leL 1 l.length ++ (l ++ r))) 1 = l.length := by
    unfold firstN
    rw [bs_list, List.take_append_of_le_length (by rw [leL_len]; omega), List.take_of_length_le (by rw [leL_len]; omega), leN_leL, Nat.mod_eq_of_lt (by omega)]
  have h2 : (leL 1 l.length ++ (l ++ r)).drop (1 + l.length) = r := by
    rw [← List.drop_drop, List.drop_left' (leL_len _ _), List.drop_left' rfl]
  have h3 : ((leL 1 l.length ++ (l ++ r)).drop 1).take (1 + l.length - 1) = l := by
    rw [List.drop_left' (leL_len _ _), List.take_left' (by omega)]
  unfold rdNm
  rw [if_pos ⟨rfl, by
    unfold nmOk
    simp only [h1, bs_size, List.length_append, leL_len]
    omega⟩]
  simp only [h1, bs_drop, h2]
  rw [bs_ext, h3]
theorem rdNm_un {st : St} {t s' : ByteArray} (h : rdNm st = (t, (s', false))) : st.2 = false ∧ st.1.data.toList = nameL t ++ s'.data.toList ∧ t.size < 256 := by
  obtain ⟨s, bad⟩ := st
  obtain ⟨l, rfl⟩ : ∃ l, s = bsB l := ⟨_, (bs_of s).symm⟩
  unfold rdNm at h
  split at h
  next hc =>
    obtain ⟨h0, h1, hle⟩ := hc
    simp only [bs_drop, Prod.mk.injEq, and_true] at h
    obtain ⟨rfl, rfl⟩ := h
    rw [bs_ext]
    simp only [bs_size] at h1 hle
    have h3 := leL_leN (l.take 1)
    rw [List.length_take, Nat.min_eq_left h1] at h3
    have h4 : leN (l.take 1) < 256 := by have := leN_lt (l.take 1); rw [List.length_take, Nat.min_eq_left h1] at this; omega
    unfold firstN at hle ⊢
    rw [bs_list] at hle ⊢
    refine ⟨h0, ?_, ?_⟩
    · unfold nameL
      rw [bs_size, List.length_take, List.length_drop, Nat.min_eq_left (by omega), Nat.add_sub_cancel_left, h3, List.append_assoc, ← List.drop_drop, bs_list, bs_list, List.take_append_drop, List.take_append_drop]
    · rw [bs_size, List.length_take]; omega
  · simp only [Prod.mk.injEq, Bool.true_eq_false, and_false] at h
theorem rdRow_app {α : Type} (f : St → α × St) (g : α → List UInt8) : ∀ (l : List α) (_ : ∀ x ∈ l, ∀ r, f (bsB (g x ++ r), false) = (x, (bsB r, false))) (r : List UInt8), rdRow f l.length (bsB (l.flatMap g ++ r), false) = (l, (bsB r, false))
  | [], _, r => rfl
  | x :: l, h, r => by
    rw [List.length_cons, rdRow_next f _ rfl, List.flatMap_cons, List.append_assoc, h x (List.mem_cons_self ..)]
    rw [rdRow_app f g l (fun y hy => h y (List.mem_cons_of_mem _ hy)) r]
theorem rdRow_un {α : Type} (f : St → α × St) (g : α → List UInt8) (h : ∀ st x s', f st = (x, (s', false)) → st.2 = false ∧ st.1.data.toList = g x ++ s'.data.toList) : ∀ (n : Nat) (st : St) (l : List α) (s' : ByteArray), rdRow f n st = (l, (s', false)) → st.2 = false ∧ l.length = n ∧ st.1.data.toList = l.flatMap g ++ s'.data.toList
  | 0, st, l, s', hr => by
    rw [rdRow] at hr
    obtain ⟨s, bad⟩ := st
    simp only [Prod.mk.injEq] at hr
    obtain ⟨rfl, rfl, rfl⟩ := hr
    exact ⟨rfl, rfl, rfl⟩
  | n + 1, st, l, s', hr => by
    cases hb : st.2
    · rw [rdRow_next f n hb] at hr
      simp only [Prod.mk.injEq] at hr
      obtain ⟨rfl, hs⟩ := hr
      have h1 := rdRow_un f g h n (f st).2 _ s' (Prod.ext rfl hs)
      have h2 := h st (f st).1 (f st).2.1 (Prod.ext rfl (Prod.ext rfl h1.1))
      refine ⟨rfl, by rw [List.length_cons, h1.2.1], ?_⟩
      rw [h2.2, h1.2.2, List.flatMap_cons, List.append_assoc]
    · rw [rdRow_bad f (n + 1) hb] at hr
      simp only [Prod.mk.injEq] at hr
      rw [hr.2] at hb
      cases hb
theorem u64_wrap {n : Nat} (h : n < 18446744073709551616) : u64N (wrap64 (n : Int)) = n := by
  unfold u64N wrap64; omega
theorem wrap_u64 {k : Int} (h0 : -9223372036854775808 ≤ k) (h1 : k < 9223372036854775808) : wrap64 (u64N k : Int) = k := by
  unfold u64N wrap64; omega
end Go.Proofs.YtlhdofkgcbmnnaaGreat

namespace Go.Proofs.YtlhdofkgcbmnnaaGreat
open Go.RowKit Go.Proofs.Heap Go.Proofs.Sch Go.Proofs.Wide

/-- The instructions of bytes, each with whether its sign can be; what is left. -/
def rdL (s : ByteArray) : List (Ins × Bool) × St := rdRow rdI (rdN 1 (s, false)).1 (rdN 1 (s, false)).2
def codeR (s : ByteArray) : List Ins := (rdL s).1.map (·.1)
def goodX (s : ByteArray) : Bool := (rdL s).1.all (·.2) && (!(rdL s).2.2 && decide ((rdL s).2.1.size = 0)) && decide (exprC (codeR s) = 0)
/-- What bytes are decoded as: formula, error. -/
def decX (s : ByteArray) : List Ins := if goodX s = true then codeR s else []
def decEX (s : ByteArray) : Nat := if goodX s = true then 0 else 4
theorem rdI_fit (st : St) : (rdI st).1.1.k.fit := by
  unfold rdI
  split
  · exact ⟨rdN_lt 8 _, rdN_lt 8 _⟩
  split
  · exact zW_fit
  split
  · exact zW_fit
  · exact zW_fit
theorem rdI_size (st : St) : (rdI st).2.1.size ≤ st.1.size := by
  have h1 := rdN_size 1 st
  have h2 := rdN_size 1 (rdN 1 st).2
  unfold rdI
  split
  · have h3 := rdN_size 8 (rdN 1 (rdN 1 st).2).2
    have h4 := rdN_size 8 (rdN 8 (rdN 1 (rdN 1 st).2).2).2
    show (rdN 8 (rdN 8 (rdN 1 (rdN 1 st).2).2).2).2.1.size ≤ _
    omega
  split
  · have h3 := rdN_size 1 (rdN 1 (rdN 1 st).2).2
    show (rdN 1 (rdN 1 (rdN 1 st).2).2).2.1.size ≤ _
    omega
  split
  · show (rdN 1 (rdN 1 st).2).2.1.size ≤ _
    omega
  · exact h1
theorem rdRowI_fit : ∀ (n : Nat) (st : St), ∀ x ∈ (rdRow rdI n st).1, x.1.k.fit
  | 0, _ => fun x hx => by simp [rdRow] at hx
  | n + 1, st => fun x hx => by
    rw [rdRow] at hx
    split at hx
    · simp at hx
    · rcases List.mem_cons.1 hx with rfl | hx
      · exact rdI_fit st
      · exact rdRowI_fit n _ x hx
theorem codeR_fit (s : ByteArray) : ∀ x ∈ codeR s, x.k.fit := by
  intro x hx
  obtain ⟨y, hy, rfl⟩ := List.mem_map.1 hx
  exact rdRowI_fit _ _ y hy
theorem codeR_len (s : ByteArray) : (codeR s).length < 256 := by
  unfold codeR
  rw [List.length_map]
  exact Nat.lt_of_le_of_lt (rdRow_len rdI _ _) (rdN_lt 1 (s, false))
theorem decX_fit (s : ByteArray) : ∀ x ∈ decX s, x.k.fit := by
  unfold decX
  split
  · exact codeR_fit s
  · intro x hx; simp at hx
/-- What an instruction that bytes can hold is. -/
abbrev OkI (x : Ins) : Prop := insB x = true ∧ plainB x = true ∧ x.k.fit
theorem kz_zero {k : WI} (h : kz k = true) : k = zW := by
  obtain ⟨n, hh, l⟩ := k
  unfold kz at h
  simp only [Bool.and_eq_true, Bool.not_eq_true', decide_eq_true_eq] at h
  obtain ⟨rfl, rfl, rfl⟩ := h
  rfl
theorem insL_1 (a b : Int) (k : WI) : insL ⟨1, a, b, k⟩ = leL 1 1 ++ (leL 1 (if k.neg = true then 1 else 0) ++ (leL 8 k.lo ++ leL 8 k.hi)) := by
  show leL 1 (u64N 1) ++ (leL 1 (if k.neg = true then 1 else 0) ++ leL 8 k.lo ++ leL 8 k.hi) = _
  rw [show u64N 1 = 1 by decide, List.append_assoc]
theorem insL_2 (a b : Int) (k : WI) : insL ⟨2, a, b, k⟩ = leL 1 2 ++ (leL 1 (u64N a) ++ leL 1 (u64N b)) := by
  show leL 1 (u64N 2) ++ (leL 1 (u64N a) ++ leL 1 (u64N b)) = _
  rw [show u64N 2 = 2 by decide]
theorem insL_3 (a b : Int) (k : WI) : insL ⟨3, a, b, k⟩ = leL 1 3 ++ leL 1 (u64N a) := by
  show leL 1 (u64N 3) ++ leL 1 (u64N a) = _
  rw [show u64N 3 = 3 by decide]
theorem insL_o {op : Int} (a b : Int) (k : WI) (h1 : op ≠ 1) (h2 : op ≠ 2) (h3 : op ≠ 3) : insL ⟨op, a, b, k⟩ = leL 1 (u64N op) := by
  unfold insL
  rw [if_neg h1, if_neg h2, if_neg h3, List.append_nil]
theorem rdI_1 {st st1 : St} (h : rdN 1 st = (1, st1)) : rdI st = ((⟨1, 0, 0, ⟨decide ((rdN 1 st1).1 = 1), (rdN 8 (rdN 8 (rdN 1 st1).2).2).1, (rdN 8 (rdN 1 st1).2).1⟩⟩, decide ((rdN 1 st1).1 ≤ 1)), (rdN 8 (rdN 8 (rdN 1 st1).2).2).2) := by
  unfold rdI; rw [h]; rfl
theorem rdI_2 {st st1 : St} (h : rdN 1 st = (2, st1)) : rdI st = ((⟨2, (rdN 1 st1).1, (rdN 1 (rdN 1 st1).2).1, zW⟩, true), (rdN 1 (rdN 1 st1).2).2) := by
  unfold rdI; rw [h]; rfl
theorem rdI_3 {st st1 : St} (h : rdN 1 st = (3, st1)) : rdI st = ((⟨3, (rdN 1 st1).1, 0, zW⟩, true), (rdN 1 st1).2) := by
  unfold rdI; rw [h]; rfl
theorem rdI_o {st st1 : St} {op : Nat} (h : rdN 1 st = (op, st1)) (h1 : op ≠ 1) (h2 : op ≠ 2) (h3 : op ≠ 3) : rdI st = ((⟨op, 0, 0, zW⟩, true), st1) := by
  unfold rdI; rw [h, if_neg h1, if_neg h2, if_neg h3]
theorem rdI_app {x : Ins} (h : OkI x) (r : List UInt8) : rdI (bsB (insL x ++ r), false) = ((x, true), (bsB r, false)) := by
  obtain ⟨hi, hp, hf⟩ := h
  have ho := insB_op hi
  obtain ⟨ha, hb, _⟩ := insB_a hi
  obtain ⟨op, a, b, ⟨kn, kh, kl⟩⟩ := x
  simp only at ho ha hb
  have hkh : kh < 18446744073709551616 := hf.1
  have hkl : kl < 18446744073709551616 := hf.2
  have p0 : u64N op < 256 ^ 1 := by unfold u64N; omega
  have p1 : u64N a < 256 ^ 1 := by unfold u64N; omega
  have p2 : u64N b < 256 ^ 1 := by unfold u64N; omega
  have p3 : kl < 256 ^ 8 := by omega
  have p4 : kh < 256 ^ 8 := by omega
  have q0 : (u64N op : Int) = op := by unfold u64N; omega
  have q1 : (u64N a : Int) = a := by unfold u64N; omega
  have q2 : (u64N b : Int) = b := by unfold u64N; omega
  unfold plainB at hp
  simp only at hp
  have hs : (if kn = true then 1 else 0) < 256 ^ 1 := by cases kn <;> decide
  by_cases h1 : op = 1
  · subst h1
    rw [if_pos rfl] at hp
    simp only [Bool.and_eq_true, decide_eq_true_eq] at hp
    obtain ⟨rfl, rfl⟩ := hp
    rw [insL_1, List.append_assoc, rdI_1 (rdN_app (by decide) _)]
    simp only [List.append_assoc, rdN_app hs, rdN_app p3, rdN_app p4]
    cases kn <;> rfl
  by_cases h2 : op = 2
  · subst h2
    rw [if_neg (by decide), if_pos rfl] at hp
    have hk := kz_zero hp
    rw [insL_2, List.append_assoc, rdI_2 (rdN_app (by decide) _)]
    simp only [List.append_assoc, rdN_app p1, rdN_app p2, q1, q2, hk]
  by_cases h3 : op = 3
  · subst h3
    rw [if_neg (by decide), if_neg (by decide), if_pos rfl] at hp
    simp only [Bool.and_eq_true, decide_eq_true_eq] at hp
    obtain ⟨rfl, hp⟩ := hp
    have hk := kz_zero hp
    rw [insL_3, List.append_assoc, rdI_3 (rdN_app (by decide) _)]
    simp only [rdN_app p1, q1, hk]
  · rw [if_neg h1, if_neg h2, if_neg h3] at hp
    simp only [Bool.and_eq_true, decide_eq_true_eq] at hp
    obtain ⟨rfl, rfl, hp⟩ := hp
    have hk := kz_zero hp
    rw [insL_o _ _ _ h1 h2 h3, rdI_o (rdN_app p0 _) (by unfold u64N; omega) (by unfold u64N; omega) (by unfold u64N; omega), q0, hk]
theorem rdI_un {st : St} {x : Ins} {g : Bool} {s' : ByteArray} (h : rdI st = ((x, g), (s', false))) (hg : g = true) : st.2 = false ∧ st.1.data.toList = insL x ++ s'.data.toList := by
  subst hg
  obtain ⟨⟨op, sa⟩, ea⟩ : ∃ x, rdN 1 st = x := ⟨_, rfl⟩
  have l0 := rdN_lt 1 st; rw [ea] at l0
  simp only at l0
  have u0 : u64N (op : Int) = op := u64N_nat (by omega)
  by_cases h1 : op = 1
  · subst h1
    rw [rdI_1 ea] at h
    obtain ⟨⟨sg, sb⟩, eb⟩ : ∃ x, rdN 1 sa = x := ⟨_, rfl⟩
    obtain ⟨⟨lo, sc⟩, ec⟩ : ∃ x, rdN 8 sb = x := ⟨_, rfl⟩
    obtain ⟨⟨hi, sd⟩, ed⟩ : ∃ x, rdN 8 sc = x := ⟨_, rfl⟩
    simp only [eb, ec, ed, Prod.mk.injEq] at h
    obtain ⟨⟨rfl, hsg⟩, rfl⟩ := h
    have hsg' : sg ≤ 1 := of_decide_eq_true hsg
    have h4 := rdN_un ed
    have h3 := rdN_un (ec.trans (Prod.ext rfl (Prod.ext rfl h4.1)))
    have h2 := rdN_un (eb.trans (Prod.ext rfl (Prod.ext rfl h3.1)))
    have hh1 := rdN_un (ea.trans (Prod.ext rfl (Prod.ext rfl h2.1)))
    refine ⟨hh1.1, ?_⟩
    have e : (if decide (sg = 1) = true then 1 else 0) = sg := by
      rcases (show sg = 0 ∨ sg = 1 by omega) with rfl | rfl <;> rfl
    rw [insL_1, e, hh1.2, h2.2, h3.2, h4.2]
    simp only [List.append_assoc]
  by_cases h2 : op = 2
  · subst h2
    rw [rdI_2 ea] at h
    obtain ⟨⟨a, sb⟩, eb⟩ : ∃ x, rdN 1 sa = x := ⟨_, rfl⟩
    obtain ⟨⟨b, sc⟩, ec⟩ : ∃ x, rdN 1 sb = x := ⟨_, rfl⟩
    have l1 := rdN_lt 1 sa; rw [eb] at l1
    have l2 := rdN_lt 1 sb; rw [ec] at l2
    simp only at l1 l2
    simp only [eb, ec, Prod.mk.injEq] at h
    obtain ⟨⟨rfl, _⟩, rfl⟩ := h
    have g3 := rdN_un ec
    have g2 := rdN_un (eb.trans (Prod.ext rfl (Prod.ext rfl g3.1)))
    have g1 := rdN_un (ea.trans (Prod.ext rfl (Prod.ext rfl g2.1)))
    refine ⟨g1.1, ?_⟩
    rw [insL_2, u64N_nat (show a < 18446744073709551616 by omega), u64N_nat (show b < 18446744073709551616 by omega), g1.2, g2.2, g3.2]
    simp only [List.append_assoc]
  by_cases h3 : op = 3
  · subst h3
    rw [rdI_3 ea] at h
    obtain ⟨⟨a, sb⟩, eb⟩ : ∃ x, rdN 1 sa = x := ⟨_, rfl⟩
    have l1 := rdN_lt 1 sa; rw [eb] at l1
    simp only at l1
    simp only [eb, Prod.mk.injEq] at h
    obtain ⟨⟨rfl, _⟩, rfl⟩ := h
    have g2 := rdN_un eb
    have g1 := rdN_un (ea.trans (Prod.ext rfl (Prod.ext rfl g2.1)))
    refine ⟨g1.1, ?_⟩
    rw [insL_3, u64N_nat (show a < 18446744073709551616 by omega), g1.2, g2.2]
    simp only [List.append_assoc]
  · rw [rdI_o ea h1 h2 h3] at h
    simp only [Prod.mk.injEq] at h
    obtain ⟨⟨rfl, _⟩, rfl⟩ := h
    have g1 := rdN_un ea
    refine ⟨g1.1, ?_⟩
    rw [insL_o _ _ _ (by omega) (by omega) (by omega), u0, g1.2]
theorem plain_rdI (st : St) : plainB (rdI st).1.1 = true := by
  obtain ⟨⟨op, sa⟩, ea⟩ : ∃ x, rdN 1 st = x := ⟨_, rfl⟩
  by_cases h1 : op = 1
  · subst h1; rw [rdI_1 ea]; rfl
  by_cases h2 : op = 2
  · subst h2; rw [rdI_2 ea]; rfl
  by_cases h3 : op = 3
  · subst h3; rw [rdI_3 ea]; rfl
  · rw [rdI_o ea h1 h2 h3]
    unfold plainB
    simp only
    rw [if_neg (by omega), if_neg (by omega), if_neg (by omega)]
    rfl
theorem plain_row : ∀ (n : Nat) (st : St), ∀ x ∈ (rdRow rdI n st).1, plainB x.1 = true
  | 0, _ => fun x hx => by simp [rdRow] at hx
  | n + 1, st => fun x hx => by
    rw [rdRow] at hx
    split at hx
    · simp at hx
    · rcases List.mem_cons.1 hx with rfl | hx
      · exact plain_rdI st
      · exact plain_row n _ x hx
theorem rdRowI_un : ∀ (n : Nat) (st : St) (l : List (Ins × Bool)) (s' : ByteArray), rdRow rdI n st = (l, (s', false)) → l.all (·.2) = true → st.2 = false ∧ l.length = n ∧ st.1.data.toList = (l.map (·.1)).flatMap insL ++ s'.data.toList
  | 0, st, l, s', h, _ => by
    rw [rdRow] at h
    obtain ⟨rfl, rfl⟩ := Prod.mk.injEq .. ▸ h
    exact ⟨rfl, rfl, by simp⟩
  | n + 1, st, l, s', h, hg => by
    rw [rdRow] at h
    split at h
    next hb =>
      rw [Prod.mk.injEq] at h
      obtain ⟨rfl, rfl⟩ := h
      simp at hb
    next hb =>
      obtain ⟨⟨⟨x, g⟩, st2⟩, ex⟩ : ∃ x, rdI st = x := ⟨_, rfl⟩
      obtain ⟨⟨r, st3⟩, er⟩ : ∃ x, rdRow rdI n st2 = x := ⟨_, rfl⟩
      rw [ex] at h
      simp only [er, Prod.mk.injEq] at h
      obtain ⟨rfl, rfl⟩ := h
      rw [List.all_cons, Bool.and_eq_true] at hg
      obtain ⟨h1, h2, h3⟩ := rdRowI_un n st2 r s' er hg.2
      have h4 := rdI_un (ex.trans (Prod.ext rfl (Prod.ext rfl h1))) hg.1
      refine ⟨h4.1, by rw [List.length_cons, h2], ?_⟩
      rw [h4.2, h3, List.map_cons, List.flatMap_cons, List.append_assoc]
theorem encC_all {code : List Ins} (h : encC code = 0) : exprC code = 0 ∧ ∀ x ∈ code, plainB x = true := by
  unfold encC at h
  split at h
  next h1 =>
    split at h
    next h2 => exact ⟨h1, h2⟩
    · omega
  next h1 => exact absurd h h1
theorem encC_of {code : List Ins} (h1 : exprC code = 0) (h2 : ∀ x ∈ code, plainB x = true) : encC code = 0 := by
  unfold encC
  rw [if_pos h1, if_pos h2]
theorem rdL_enc {code : List Ins} (h : encC code = 0) (hf : ∀ x ∈ code, x.k.fit) (r : List UInt8) : rdL (bsB (expL code ++ r)) = (code.map (fun x => (x, true)), (bsB r, false)) := by
  obtain ⟨h1, h2⟩ := encC_all h
  have h3 := exprC_all h1
  have p0 : code.length < 256 ^ 1 := by have := h3.2.1; omega
  unfold rdL expL
  rw [List.append_assoc, rdN_app p0]
  have := rdRow_app rdI (fun x : Ins × Bool => insL x.1) (code.map (fun x => (x, true))) (fun x hx r => by
    obtain ⟨y, hy, rfl⟩ := List.mem_map.1 hx
    exact rdI_app ⟨h3.2.2 y hy, h2 y hy, hf y hy⟩ r) r
  rw [List.length_map, List.flatMap_map] at this
  exact this
theorem map_pair (code : List Ins) : (code.map (fun x => (x, true))).map (·.1) = code := by rw [List.map_map]; exact List.map_id' code
theorem codeR_enc {code : List Ins} (h : encC code = 0) (hf : ∀ x ∈ code, x.k.fit) (r : List UInt8) : codeR (bsB (expL code ++ r)) = code := by
  unfold codeR
  rw [rdL_enc h hf, map_pair]
theorem goodX_enc {code : List Ins} (h : encC code = 0) (hf : ∀ x ∈ code, x.k.fit) : goodX (bsB (expL code)) = true ∧ codeR (bsB (expL code)) = code := by
  have e1 := rdL_enc h hf []
  have e2 := codeR_enc h hf []
  rw [List.append_nil] at e1 e2
  refine ⟨?_, e2⟩
  unfold goodX
  rw [e1, e2]
  simp [(encC_all h).1, bs_size]
theorem decX_enc {code : List Ins} (h : encC code = 0) (hf : ∀ x ∈ code, x.k.fit) : decX (expS code) = code ∧ decEX (expS code) = 0 := by
  have e : expS code = bsB (expL code) := if_pos h
  obtain ⟨g1, g2⟩ := goodX_enc h hf
  rw [e]
  unfold decX decEX
  rw [if_pos g1, if_pos g1]
  exact ⟨g2, rfl⟩
theorem goodX_more {code : List Ins} (h : encC code = 0) (hf : ∀ x ∈ code, x.k.fit) (m : UInt8) : goodX (bsB (expL code ++ [m])) = false := by
  unfold goodX
  rw [rdL_enc h hf [m]]
  simp [bs_size]
theorem enc_codeR {s : ByteArray} (h : goodX s = true) : s.data.toList = expL (codeR s) ∧ encC (codeR s) = 0 := by
  unfold goodX at h
  simp only [Bool.and_eq_true, decide_eq_true_eq, Bool.not_eq_true'] at h
  obtain ⟨⟨hg, hb, hz⟩, hc⟩ := h
  refine ⟨?_, encC_of hc (fun x hx => by
    obtain ⟨y, hy, rfl⟩ := List.mem_map.1 hx
    exact plain_row _ _ y hy)⟩
  obtain ⟨⟨n, st1⟩, e1⟩ : ∃ x, rdN 1 (s, false) = x := ⟨_, rfl⟩
  obtain ⟨⟨l, st2⟩, e2⟩ : ∃ x, rdRow rdI n st1 = x := ⟨_, rfl⟩
  have HP : rdL s = (l, st2) := by unfold rdL; rw [e1]; exact e2
  unfold codeR
  rw [HP] at hg hb hz ⊢
  simp only at hb hz hg ⊢
  have h2 := rdRowI_un n st1 l st2.1 (e2.trans (Prod.ext rfl (Prod.ext rfl hb))) hg
  have h1 := rdN_un (e1.trans (Prod.ext rfl (Prod.ext rfl h2.1)))
  have h0 : st2.1.data.toList = [] := List.eq_nil_of_length_eq_zero (by rw [Array.length_toList]; exact hz)
  have e : s.data.toList = _ := h1.2
  unfold expL
  rw [e, h2.2.2, h0, List.append_nil, List.length_map, h2.2.1]
theorem goodX_less {code : List Ins} (h : encC code = 0) (hf : ∀ x ∈ code, x.k.fit) {s : ByteArray} {b : UInt8} (hs : expL code = s.data.toList ++ [b]) : goodX s = false := by
  cases hg : goodX s
  · rfl
  · exfalso
    obtain ⟨g1, g2⟩ := enc_codeR hg
    have h1 := rdL_enc g2 (codeR_fit s) [b]
    rw [← g1, ← hs] at h1
    have h2 := rdL_enc h hf []
    rw [List.append_nil, h1] at h2
    have h3 := congrArg (fun p : List (Ins × Bool) × St => p.2.1.size) h2
    simp [bs_size] at h3
theorem expL_pos (code : List Ins) : 1 ≤ (expL code).length := by
  unfold expL
  rw [List.length_append, leL_len]
  omega
theorem decX_more {code : List Ins} (h : encC code = 0) (hf : ∀ x ∈ code, x.k.fit) (m : UInt8) : decEX (expS code ++ ⟨#[m]⟩) = 4 := by
  have e : expS code ++ ⟨#[m]⟩ = bsB (expL code ++ [m]) := by
    unfold expS; rw [if_pos h]
    apply ByteArray.ext
    apply Array.toList_inj.1
    rw [ByteArray.data_append, Array.toList_append]; rfl
  rw [e]
  unfold decEX; rw [goodX_more h hf m]; rfl
theorem decX_less {code : List Ins} (h : encC code = 0) (hf : ∀ x ∈ code, x.k.fit) : decEX ((expS code).extract 0 ((expS code).size - 1)) = 4 := by
  have e0 : expS code = bsB (expL code) := if_pos h
  have hp := expL_pos code
  have e : (expS code).extract 0 ((expS code).size - 1) = bsB ((expL code).take ((expL code).length - 1)) := by
    rw [e0, bs_ext, bs_size, List.drop_zero, Nat.sub_zero]
  rw [e]
  unfold decEX
  have hd : (expL code).drop ((expL code).length - 1) = [(expL code)[(expL code).length - 1]] := by
    rw [List.drop_eq_getElem_cons (by omega), List.drop_of_length_le (by omega)]
  rw [goodX_less h hf (b := (expL code)[(expL code).length - 1]) (by rw [bs_list, ← hd, List.take_append_drop])]
  rfl
end Go.Proofs.YtlhdofkgcbmnnaaGreat
