/- What is proved: the sample of scode's laws: its answers are the document's. -/
import Derived.Test.YtfehiclbcebnoaaGreatMScPts4
import Derived.Test.YtfehiclbcebnoaaGreatMSchSame
import Derived.Test.YtfehiclbcebnoaaGreatMSchCheck
import Derived.Test.YtfehiclbcebnoaaGreatMLay2
import Derived.Test.YtfehiclbcebnoaaGreatMRegion
import Derived.Laws.StructEq
import Derived.Test.YtfehiclbcebnoaaGreatMRf5un
import Derived.Test.YtfehiclbcebnoaaGreatMHeap
import Derived.Test.YtfehiclbcebnoaaGreatProg
import Derived.Deep.Slices
import Derived.Deep.Strs
import Derived.ProofKit
import Derived.OpenShut
import Derived.ShutString
import Derived.ChangeOld
import Derived.Below
namespace Go.Proofs.YtfehiclbcebnoaaGreat
open Go.RowKit Go.Proofs.Heap Go.Proofs.Sch Go.Proofs.Wide

def HPS : List Cmp := [⟨2, ⟨#[104, 112]⟩, [⟨⟨#[110]⟩, 6, 1⟩]⟩]
def P7 : List Prt := [⟨2, [⟨false, 0, 7⟩]⟩]
def P9 : List Prt := [⟨2, [⟨false, 0, 9⟩]⟩]
theorem hp_small : Small HPS := by unfold Small HPS; decide
theorem hp_ok : checkC 1 HPS = 0 := by decide +kernel
theorem hp_list : schL 1 HPS = [83, 1, 0, 0, 0, 1, 2, 2, 104, 112, 1, 1, 110, 6, 1] := by decide +kernel
theorem hp_enc : encZ 1 HPS = bsB (schL 1 HPS) := if_pos hp_ok
theorem hp_dec : decV (encZ 1 HPS) = 1 ∧ decC (encZ 1 HPS) = HPS ∧ decEZ (encZ 1 HPS) = 0 := by rw [hp_enc]; exact decZ_enc hp_ok
theorem s_dec : decEZ ⟨#[83]⟩ = 4 := by decide +kernel
theorem p7_ok : prtsC 1 HPS P7 = 0 := by decide +kernel
theorem p9_ok : prtsC 1 HPS P9 = 0 := by decide +kernel
theorem p7_list : prtsL HPS P7 = [1, 2, 7] := by decide +kernel
theorem p9_list : prtsL HPS P9 = [1, 2, 9] := by decide +kernel
theorem p7_enc : encP 1 HPS P7 = bsB [1, 2, 7] := by unfold encP; rw [if_pos p7_ok, p7_list]; rfl
theorem p9_dec : decPL 1 HPS ⟨#[1, 2, 9]⟩ = P9 ∧ decPE 1 HPS ⟨#[1, 2, 9]⟩ = 0 := by
  have h := goodP_enc p9_ok (by decide)
  rw [p9_list] at h
  exact h.2
theorem tl_bs (l : List UInt8) : (bsB l).toList = l := by
  rw [tl_eq]; rfl

set_option maxRecDepth 20000 in
set_option maxHeartbeats 32000000 in
theorem sc_awake (w : World) : Calls Tryz.prog 4 #[] w fun r w' => r = .returned (.bool true) ∧ Keep (fun _ => False) w w' := by
  obtain ⟨w1, hw1, hb1, hb2, hb3, hs1, hk1⟩ := box3 w #[.string ⟨#[110]⟩, .int .i64 6, .int .i64 1] #[.int .i64 2, .string ⟨#[104, 112]⟩, .slice (some ⟨w.heap.size, 0, none⟩) 1 1] #[.int .i64 1, .slice (some ⟨w.heap.size + 1, 0, none⟩) 1 1] 45 48 24
  have HF1 := hid hb1; have HC1 := hid hb2; have HS1 := hid hb3; have HK1 := hid hk1
  clear hb1 hb2 hb3 hs1 hk1
  go_enter Tryz.func4, Tryz.ntmps4
  go_upto_region 2 with fail
  rw [← hw1]
  clear hw1
  generalize w.heap.size + 1 + 1 = A at *
  generalize w.heap.size + 1 = cb at *
  generalize w.heap.size = fb at *
  have HCA : Hid (∀ wy, Keep (fun _ => False) w1 wy → CP wy wy.heap.size (some ⟨cb, 0, none⟩) HPS) := hid (fun wy hk => by
    have k1 := hk.get HF1.out id
    have k2 := hk.get HC1.out id
    refine .inr ⟨_, 0, rfl, lt_of_heap k2, fun i x hx => ?_⟩
    match i, hx with
    | 0, hx =>
      injection hx with hx; subst hx
      refine ⟨cell_of k2 (by rfl), cell_of k2 (by rfl), some ⟨fb, 0, none⟩, 1, cell_of k2 (by rfl), Nat.le_refl _, ?_⟩
      refine .inr ⟨_, 0, rfl, lt_of_heap k1, fun i x hx => ?_⟩
      match i, hx with
      | 0, hx => injection hx with hx; subst hx; exact ⟨cell_of k1 (by rfl), cell_of k1 (by rfl), cell_of k1 (by rfl)⟩
      | _ + 1, hx => simp at hx
    | _ + 1, hx => simp [HPS] at hx)
  have HSA : Hid (∀ wy, Keep (fun _ => False) w1 wy → wy.cell? ⟨A, 0, none⟩ = some (.int .i64 1) ∧ wy.cell? ⟨A, 1, none⟩ = some (.slice (some ⟨cb, 0, none⟩) 1 1)) := hid (fun wy hk => ⟨cell_of (hk.get HS1.out id) (by rfl), cell_of (hk.get HS1.out id) (by rfl)⟩)
  clear HF1 HC1 HS1
  have HT1 : Hid (Keep (fun _ => False) w1 w1) := hid (Keep.refl _ _)
  obtain ⟨s0, s1⟩ := HSA.out _ HT1.out
  go_wp2_with fail
  refine (sc_encode 1 HPS (some ⟨cb, 0, none⟩) 1 w1 hp_small (HCA.out _ HT1.out)).mono ?_
  rw [hp_ok]
  rintro r w2 ⟨rfl, hk⟩
  have HT2 := hid (HT1.out.trans hk)
  clear hk s0 s1
  have HB : Hid (encZ 1 HPS = bsB (schL 1 HPS)) := hid hp_enc
  have HD := hid hp_dec
  have HDC := hid (sc_decode (encZ 1 HPS) w2 (by rw [hp_enc, bs_size, hp_list]; decide))
  generalize encZ 1 HPS = B at *
  go_wp2_with fail
  refine HDC.out.mono ?_
  rintro r w3 ⟨p3, c3, rfl, hcp, hcl, hk⟩
  rw [HD.out.1, HD.out.2.1, HD.out.2.2]
  rw [HD.out.2.1] at hcp hcl
  have HT3 := hid (HT2.out.trans hk)
  have HCP3 := hid hcp
  clear hk hcp hcl HDC
  obtain ⟨w4, hw4, hb4, hs4, hk4⟩ := box1 w3 #[.int .i64 1, .slice p3 HPS.length c3] 24
  have HD4 := hid hb4; have HT4 := hid (HT3.out.trans hk4)
  have HCP4 := hid (CP.mono (CP.low HCP3.out (Low.keep0 hk4)) hk4.size)
  clear hb4 hs4 hk4 HCP3
  go_upto_region 4 with fail
  rw [← hw4]
  clear hw4
  generalize w3.heap.size = D at *
  go_wp2_with fail
  refine (sc_decode ⟨#[83]⟩ w4 (by decide)).mono ?_
  rintro r w5 ⟨p5, c5, rfl, _, _, hk⟩
  rw [s_dec]
  have HD5 := hid (hk.get HD4.out id); have HT5 := hid (HT4.out.trans hk); have HCP5 := hid (CP.mono (CP.low HCP4.out (Low.keep0 hk)) hk.size)
  clear hk HD4 HCP4
  generalize decV ⟨#[83]⟩ = v5 at *
  generalize (decC ⟨#[83]⟩).length = l5 at *
  obtain ⟨w6, hw6, hb6, hs6, hk6⟩ := box1 w5 #[.int .i64 v5, .slice p5 l5 c5] 24
  have HD6 := hid (hk6.get HD5.out id); have HT6 := hid (HT5.out.trans hk6); have HCP6 := hid (CP.mono (CP.low HCP5.out (Low.keep0 hk6)) hk6.size)
  clear hb6 hs6 hk6 HD5 HCP5
  go_upto_region 5 with fail
  rw [← hw6]
  clear hw6
  refine Plan.wp_region_pl [(false, 0, []), (true, 1, [0]), (true, 2, [0]), (false, 3, []), (true, 4, [0]), (true, 5, []), (false, 6, []), (false, 7, []), (false, 8, []), (false, 9, []), (false, 10, [])] (by as_aux_lemma => kernel_rfl) (by as_aux_lemma => kernel_rfl) ?_
  have HU6 : Hid (Keep (fun _ => False) w6 w6.drew) := hid (Keep.refl _ _).drew
  obtain ⟨s0, s1⟩ := HSA.out _ (HT6.out.trans HU6.out)
  iterate 1 (refine Plan.pl_st rfl ?_; go_big_quiet_step (fail); refine wpQuiet_nil ?_)
  refine Plan.pl_ac rfl ?_
  go_wp2_with fail
  refine (w_of 7 (by decide) _).mono ?_
  rintro r w7 ⟨rfl, hk⟩
  have HU7 := hid (HU6.out.trans hk)
  clear hk s0 s1
  obtain ⟨s0, s1⟩ := HSA.out _ (HT6.out.trans HU7.out)
  go_wp2
  refine Plan.plQ_mk ?_ ?_
  · iterate 1 (refine Plan.chk_st rfl ?_ ?_; focus (go_big_quiet_step (fail); exact wpQuiet_nil rfl))
    exact Plan.chk_end
  refine Plan.pl_ac rfl ?_
  obtain ⟨w8, hw8, hb8, hs8, hk8⟩ := box1 w7 #[.bool false, .int .u64 0, .int .u64 7] 54
  have HX8 := hid hb8; have HU8 := hid (HU7.out.trans hk8)
  clear hb8 hs8 hk8 s0 s1
  obtain ⟨s0, s1⟩ := HSA.out _ (HT6.out.trans HU8.out)
  go_wp2
  rw [← hw8]
  clear hw8
  generalize w7.heap.size = xb at *
  refine Plan.plQ_mk ?_ ?_
  · iterate 1 (refine Plan.chk_st rfl ?_ ?_; focus (go_big_quiet_step (fail); exact wpQuiet_nil rfl))
    exact Plan.chk_end
  iterate 1 (refine Plan.pl_st rfl ?_; go_big_quiet_step (fail); refine wpQuiet_nil ?_)
  refine Plan.pl_ac rfl ?_
  obtain ⟨w9, hw9, hb9, hs9, hk9⟩ := box1 w8 #[.int .i64 2, .slice (some ⟨xb, 0, none⟩) 1 1] 30
  have HX9 := hid (hk9.get HX8.out id); have HPT9 := hid hb9; have HU9 := hid (HU8.out.trans hk9)
  clear hb9 hs9 hk9 s0 s1
  obtain ⟨s0, s1⟩ := HSA.out _ (HT6.out.trans HU9.out)
  go_wp2
  rw [← hw9]
  clear hw9
  generalize w8.heap.size = tb at *
  refine Plan.plQ_mk ?_ ?_
  · iterate 1 (refine Plan.chk_st rfl ?_ ?_; focus (go_big_quiet_step (fail); exact wpQuiet_nil rfl))
    exact Plan.chk_end
  refine Plan.pl_ac rfl ?_
  have HPP9 : Hid (PP w9 w9.heap.size (some ⟨tb, 0, none⟩) P7) := hid (by
    refine .inr ⟨_, 0, rfl, lt_of_heap HPT9.out, fun i x hx => ?_⟩
    match i, hx with
    | 0, hx =>
      injection hx with hx; subst hx
      refine ⟨cell_of HPT9.out (by rfl), some ⟨xb, 0, none⟩, 1, cell_of HPT9.out (by rfl), Nat.le_refl _, ?_⟩
      refine .inr ⟨_, 0, rfl, lt_of_heap HX9.out, fun i x hx => ?_⟩
      match i, hx with
      | 0, hx => injection hx with hx; subst hx; exact ⟨cell_of HX9.out (by rfl), cell_of HX9.out (by rfl), cell_of HX9.out (by rfl)⟩
      | _ + 1, hx => simp at hx
    | _ + 1, hx => simp [P7] at hx)
  go_wp2_with fail
  refine (sc_encodeParts 1 HPS (some ⟨cb, 0, none⟩) 1 P7 (some ⟨tb, 0, none⟩) 1 w9 hp_small (by decide) (by decide) (by intro x hx y hy; simp [P7] at hx; subst hx; simp at hy; subst hy; exact ⟨by decide, by decide⟩) (HCA.out _ (HT6.out.trans HU9.out)) HPP9.out).mono ?_
  rw [p7_ok]
  rintro r w10 ⟨rfl, hk⟩
  have HU10 := hid (HU9.out.trans hk)
  have HPB : Hid (encP 1 HPS P7 = bsB [1, 2, 7]) := hid p7_enc
  generalize encP 1 HPS P7 = PB at *
  clear hk s0 s1 HPP9 HPT9
  obtain ⟨s0, s1⟩ := HSA.out _ (HT6.out.trans HU10.out)
  go_wp2
  refine Plan.plQ_mk Plan.chk_end ?_
  iterate 5 (refine Plan.pl_st rfl ?_; go_big_quiet_step (fail); refine wpQuiet_nil ?_)
  refine Plan.pl_end ?_
  clear s0 s1
  have HD10 := hid (HU10.out.get HD6.out id); have HT10 := hid (HT6.out.trans HU10.out); have HCP10 := hid (CP.mono (CP.low HCP6.out (Low.keep0 HU10.out)) HU10.out.size)
  clear HD6 HCP6 HX9 HX8 HU10 HU8 HU9
  obtain ⟨s0, s1⟩ := HSA.out _ HT10.out
  go_wp2_with fail
  refine (sc_decodeParts 1 HPS (some ⟨cb, 0, none⟩) 1 ⟨#[1, 2, 9]⟩ w10 hp_small (by decide) (HCA.out _ HT10.out)).mono ?_
  rintro r w11 ⟨p11, c11, rfl, hpp, hpl, hk⟩
  rw [p9_dec.1, p9_dec.2, show P9.length = 1 from rfl]
  rw [p9_dec.1] at hpp hpl
  have HD11 := hid (hk.get HD10.out id); have HT11 := hid (HT10.out.trans hk); have HCP11 := hid (CP.mono (CP.low HCP10.out (Low.keep0 hk)) hk.size)
  have HPP := hid hpp
  clear hk hpp hpl s0 s1 HD10 HCP10
  obtain ⟨pb, po, q, z, hpe, hpb, x0, x1, hz1, hxp⟩ := PP.at HPP.out (i := 0) (x := ⟨2, [⟨false, 0, 9⟩]⟩) rfl
  subst hpe
  obtain ⟨qb, qo, hqe, hqb, y0, y1, y2⟩ := XP.at hxp (i := 0) (f := ⟨false, 0, 9⟩) rfl
  subst hqe
  have HW : Hid (∀ wy, Keep (fun _ => False) w11 wy → (wy.cell? ⟨pb, po + 1, none⟩ = some (.slice (some ⟨qb, qo, none⟩) 1 z)) ∧ wy.cell? ⟨qb, qo, none⟩ = some (.bool false) ∧ wy.cell? ⟨qb, qo + 1, none⟩ = some (.int .u64 0) ∧ wy.cell? ⟨qb, qo + 2, none⟩ = some (.int .u64 9)) := hid (fun wy hk => by
    refine ⟨?_, ?_, ?_, ?_⟩
    · rw [(Low.keep0 hk).cell hpb]; simpa using x1
    · rw [(Low.keep0 hk).cell hqb]; simpa using y0
    · rw [(Low.keep0 hk).cell hqb]; simpa using y1
    · rw [(Low.keep0 hk).cell hqb]; simpa using y2)
  clear x0 x1 hz1 hxp y0 y1 y2 hpb hqb HPP
  have HEQ := hid (r_same 1 1 HPS HPS (some ⟨cb, 0, none⟩) p3 1 c3 w11 hp_small (HCA.out _ HT11.out) HCP11.out)
  rw [decide_eq_true (⟨rfl, rfl⟩ : (1 : Int) = 1 ∧ HPS = HPS)] at HEQ
  obtain ⟨s0, s1⟩ := HSA.out _ HT11.out
  have d0 := cell_of HD11.out (i := 0) (by rfl)
  have d1 : w11.cell? ⟨D, 1, none⟩ = some (.slice p3 1 c3) := cell_of HD11.out (i := 1) (by rfl)
  have heB : (B.toList == [83, 1, 0, 0, 0, 1, 2, 2, 104, 112, 1, 1, 110, 6, 1]) = true := by rw [HB.out, tl_bs, hp_list]; rfl
  have heP : (PB.toList == [1, 2, 7]) = true := by rw [HPB.out, tl_bs]; rfl
  obtain ⟨u1, u2, u3, u4⟩ := HW.out w11 (Keep.refl _ _)
  go_upto_region 7 with fail
  refine Plan.wp_region_pl3 [(false, 0, []), (false, 1, []), (false, 2, []), (false, 3, []), (false, 4, []), (false, 5, []), (false, 6, []), (false, 7, []), (false, 8, []), (false, 9, []), (false, 10, []), (false, 11, []), (false, 12, []), (true, 13, []), (false, 14, []), (false, 15, []), (false, 16, []), (false, 17, []), (false, 18, []), (false, 19, []), (false, 20, []), (false, 21, []), (false, 22, []), (false, 23, []), (false, 24, []), (false, 25, []), (false, 26, []), (false, 27, []), (false, 28, []), (false, 29, []), (false, 30, []), (false, 31, []), (false, 32, []), (false, 33, []), (false, 34, []), (false, 35, []), (false, 36, []), (false, 37, []), (false, 38, []), (false, 39, []), (false, 40, []), (false, 41, []), (false, 42, []), (false, 43, []), (false, 44, []), (false, 45, []), (false, 46, []), (false, 47, []), (false, 48, []), (false, 49, []), (false, 50, []), (true, 51, [50, 49, 48, 47, 46, 45]), (false, 52, []), (false, 53, []), (false, 54, [])] (by as_aux_lemma => kernel_rfl) (by as_aux_lemma => kernel_rfl) ?_
  have HKd : Hid (Keep (fun _ => False) w11 w11.drew) := hid (Keep.refl _ _).drew
  have HTd := hid (HT11.out.trans HKd.out)
  have HEQ2 := hid (r_same 1 1 HPS HPS (some ⟨cb, 0, none⟩) p3 1 c3 w11.drew hp_small (HCA.out _ HTd.out) (CP.mono (CP.low HCP11.out (Low.keep0 HKd.out)) HKd.out.size))
  rw [decide_eq_true (⟨rfl, rfl⟩ : (1 : Int) = 1 ∧ HPS = HPS)] at HEQ2
  have hd := HKd.out.get HD11.out id
  clear s0 s1 d0 d1 u1 u2 u3 u4 HEQ
  obtain ⟨s0, s1⟩ := HSA.out _ HTd.out
  have d0 := cell_of hd (i := 0) (by rfl)
  have d1 : w11.drew.cell? ⟨D, 1, none⟩ = some (.slice p3 1 c3) := cell_of hd (i := 1) (by rfl)
  obtain ⟨u1, u2, u3, u4⟩ := HW.out _ HKd.out
  clear hd
  generalize w11.drew = wd at *
  iterate 13 (refine Plan.pl_st rfl ?_; go_big_quiet_step (fail); refine wpQuiet_nil ?_)
  refine Plan.pl_ac rfl ?_
  go_wp2_with fail
  refine HEQ2.out.mono ?_
  rintro r w12 ⟨rfl, hk⟩
  have HT12 := hid (HTd.out.trans hk); have HTT := hid (HKd.out.trans hk)
  clear hk HEQ2 s0 s1 d0 d1 u1 u2 u3 u4
  obtain ⟨u1, u2, u3, u4⟩ := HW.out _ HTT.out
  go_wp2
  refine Plan.plQ_mk Plan.chk_end ?_
  iterate 37 (refine Plan.pl_st rfl ?_; go_big_quiet_step (fail); refine wpQuiet_nil ?_)
  refine Plan.pl_ac rfl ?_
  go_wp2_with fail
  refine (w_of 9 (by decide) _).mono ?_
  rintro r w13 ⟨rfl, hk⟩
  have HT13 := hid (HT12.out.trans hk); have HTU := hid (HTT.out.trans hk)
  clear hk u1 u2 u3 u4
  obtain ⟨u1, u2, u3, u4⟩ := HW.out _ HTU.out
  go_wp2
  refine Plan.plQ_mk ?_ ?_
  · iterate 6 (refine Plan.chk_st rfl ?_ ?_; focus (go_big_quiet_step (fail); exact wpQuiet_nil rfl))
    exact Plan.chk_end
  iterate 3 (refine Plan.pl_st rfl ?_; go_big_quiet_step (fail); refine wpQuiet_nil ?_)
  refine Plan.pl_end ?_
  go_wp2
  go_ret
  exact ⟨rfl, HK1.out.trans HT13.out⟩
end Go.Proofs.YtfehiclbcebnoaaGreat

namespace Go.Proofs.YtfehiclbcebnoaaGreat
open Go.RowKit Go.Proofs.Heap Go.Proofs.Sch

/-- A component of the sizes that are asked. -/
def FairZ (c : Cmp) : Prop := c.fs.length ≤ 12 ∧ c.name.size ≤ 300 ∧ ∀ f ∈ c.fs, f.name.size ≤ 300
def FairZS (cs : List Cmp) : Prop := cs.length ≤ 30 ∧ ∀ c ∈ cs, FairZ c
instance (c : Cmp) : Decidable (FairZ c) := inferInstanceAs (Decidable (_ ∧ _))
instance (cs : List Cmp) : Decidable (FairZS cs) := inferInstanceAs (Decidable (_ ∧ _))
theorem FairZS.small {cs : List Cmp} (h : FairZS cs) : Small cs := ⟨Nat.le_trans h.1 (by omega), fun c hc => Nat.le_trans (h.2 c hc).1 (by omega)⟩

set_option maxRecDepth 20000 in
set_option maxHeartbeats 4000000 in
theorem sz_great (v : Int) (cs : List Cmp) (p : Option Addr) (cap : Nat) (w : World) (hf : CP w w.heap.size p cs) :
    Calls Tryz.prog 5 #[.agg #[.int .i64 v, .slice p cs.length cap]] w fun r w' => r = .returned (.bool (!decide (FairZS cs))) ∧ Keep (fun _ => False) w w' := by
  have hb0 := heap_alloc_new w (.cells #[.int .i64 v, .slice p cs.length cap] 24)
  have hk0 := (Keep.refl (fun _ => False) w).alloc (.cells #[.int .i64 v, .slice p cs.length cap] 24)
  have hf1 := CP.low hf (Low.of_keep hk0 (Nat.le_refl _) (fun _ h => h.elim))
  have HF := hid hf1
  have HK0 := hid hk0
  have HB0 := hid hb0
  clear hf hf1 hb0 hk0
  go_enter Tryz.func5, Tryz.ntmps5
  go_upto_region 1 with fail
  generalize w.alloc (.cells #[.int .i64 v, .slice p cs.length cap] 24) = w0 at *
  generalize w.heap.size = sb at *
  have hc1 : w0.cell? ⟨sb, 1, none⟩ = some (.slice p cs.length cap) := cell_of HB0.out (by rfl)
  by_cases h1 : 30 < cs.length
  · have g1 : decide ((30 : Int) < (cs.length : Int)) = true := decide_eq_true (by omega)
    have g2 : decide (30 < cs.length) = true := decide_eq_true h1
    have G3 : Hid (decide (FairZS cs) = false) := hid (decide_eq_false (fun h => by have := h.1; omega))
    go_wp2
    go_ret
    exact ⟨by first | rfl | (rw [G3.out]; rfl), HK0.out⟩
  have g1 : decide ((30 : Int) < (cs.length : Int)) = false := decide_eq_false (by omega)
  have g2 : decide (30 < cs.length) = false := decide_eq_false h1
  have hl : cs.length ≤ 30 := by omega
  clear h1
  go_wp2_with fail
  clear g1 g2
  go_loopw [3, 4] (fun i _ wr => ∃ k : Nat, k ≤ cs.length ∧ i = iV k ∧ w0 = wr ∧ ∀ c ∈ cs.take k, FairZ c) (fun i _ _ => cs.length + 1 - (intOf i).toNat)
  case atStart => exact ⟨0, by omega, rfl, rfl, by simp⟩
  case round =>
    obtain ⟨k, hk, rfl, rfl, hall⟩ := hrel
    have HA := hid hall
    clear hall
    by_cases hlt : k < cs.length
    · obtain ⟨c, hck⟩ : ∃ c, cs[k]? = some c := ⟨cs[k], by simp [hlt]⟩
      obtain ⟨b, off, fq, fk, rfl, hb, c0, c1, c2, _, hff⟩ := CP.at HF.out hck
      have hin : (0 : Int) ≤ (k : Int) ∧ (k : Int) < (cs.length : Int) := ⟨by omega, by omega⟩
      have HFF := hid hff
      have HN : Hid (FairZ c → ∀ d ∈ cs.take (k + 1), FairZ d) := hid (fun hc d hd => by
        rw [take_next hck] at hd
        rcases List.mem_append.1 hd with h | h
        · exact HA.out d h
        · rw [List.mem_singleton.1 h]; exact hc)
      have HBAD : Hid (¬ FairZ c → decide (FairZS cs) = false) := hid (fun hn => decide_eq_false (fun h => hn (h.2 c (List.mem_of_getElem? hck))))
      have HFR : Hid (c.fs.length ≤ 12 → c.name.size ≤ 300 → (∀ f ∈ c.fs, f.name.size ≤ 300) → FairZ c) := hid (fun a b d => ⟨a, b, d⟩)
      clear hck hff
      obtain ⟨id, nm, fs⟩ := c
      simp only at c0 c1 c2 
      by_cases h2 : 12 < fs.length
      · have g1 : decide ((12 : Int) < (fs.length : Int)) = true := decide_eq_true (by omega)
        have g2 : decide (12 < fs.length) = true := decide_eq_true h2
        have G3 := hid (HBAD.out (fun h => by have := h.1; simp only at this; omega))
        go_wp2
        go_ret
        exact ⟨by first | rfl | (rw [G3.out]; rfl), HK0.out⟩
      have g1 : decide ((12 : Int) < (fs.length : Int)) = false := decide_eq_false (by omega)
      have g2 : decide (12 < fs.length) = false := decide_eq_false h2
      by_cases h3 : 300 < nm.size
      · have g3 : decide ((300 : Int) < (nm.size : Int)) = true := decide_eq_true (by omega)
        have g4 : decide (300 < nm.size) = true := decide_eq_true h3
        have G3 := hid (HBAD.out (fun h => by have := h.2.1; simp only at this; omega))
        go_wp2
        go_ret
        exact ⟨by first | rfl | (rw [G3.out]; rfl), HK0.out⟩
      have g3 : decide ((300 : Int) < (nm.size : Int)) = false := decide_eq_false (by omega)
      have g4 : decide (300 < nm.size) = false := decide_eq_false h3
      have hl2 : fs.length ≤ 12 := by omega
      go_wp2_with fail
      clear g1 g2 g3 g4
      go_loopw [4] (fun i wy => ∃ j : Nat, j ≤ fs.length ∧ i = iV j ∧ w0 = wy ∧ ∀ f ∈ fs.take j, f.name.size ≤ 300) (fun i _ => fs.length + 1 - (intOf i).toNat)
      case atStart => exact ⟨0, by omega, rfl, rfl, by simp⟩
      case round =>
        obtain ⟨j, hj, rfl, rfl, hal2⟩ := hrel
        have HA2 := hid hal2
        clear hal2
        by_cases hjt : j < fs.length
        · obtain ⟨f, hfk⟩ : ∃ f, fs[j]? = some f := ⟨fs[j], by simp [hjt]⟩
          obtain ⟨b2, off2, rfl, hb2, e0, e1, e2⟩ := FP.at HFF.out hfk
          have hin2 : (0 : Int) ≤ (j : Int) ∧ (j : Int) < (fs.length : Int) := ⟨by omega, by omega⟩
          have HN2 : Hid (f.name.size ≤ 300 → ∀ d ∈ fs.take (j + 1), d.name.size ≤ 300) := hid (fun hc d hd => by
            rw [take_next hfk] at hd
            rcases List.mem_append.1 hd with h | h
            · exact HA2.out d h
            · rw [List.mem_singleton.1 h]; exact hc)
          have HN3 : Hid (300 < f.name.size → ¬ ∀ f ∈ fs, f.name.size ≤ 300) := hid (fun h4 h => by have := h f (List.mem_of_getElem? hfk); omega)
          clear hfk
          obtain ⟨fn, kd, ct⟩ := f
          simp only at e0 e1 e2
          by_cases h4 : 300 < fn.size
          · have g3 : decide ((300 : Int) < (fn.size : Int)) = true := decide_eq_true (by omega)
            have g4 : decide (300 < fn.size) = true := decide_eq_true h4
            have G3 := hid (HBAD.out (fun h => HN3.out h4 h.2.2))
            go_wp2
            go_ret
            exact ⟨by first | rfl | (rw [G3.out]; rfl), HK0.out⟩
          have g3 : decide ((300 : Int) < (fn.size : Int)) = false := decide_eq_false (by omega)
          have g4 : decide (300 < fn.size) = false := decide_eq_false h4
          have G3 := hid (HN2.out (show fn.size ≤ 300 by omega))
          go_wp2
          go_roundw
          case rel => exact ⟨j + 1, by omega, by go_num, by simp, G3.out⟩
          case measure => simp [intOf]; omega
        · obtain rfl : j = fs.length := by omega
          have G3 := hid (HN.out (HFR.out hl2 (show nm.size ≤ 300 by omega) (by have := HA2.out; rwa [List.take_length] at this)))
          have g1 : decide ((fs.length : Int) < (fs.length : Int)) = false := decide_eq_false (by omega)
          clear HN HFR HA2
          go_wp2
          go_roundw
          case rel => exact ⟨k + 1, by omega, by go_num, by simp, G3.out⟩
          case measure => simp [intOf]; omega
    · obtain rfl : k = cs.length := by omega
      have G3 : Hid (FairZS cs) := hid ⟨hl, by have := HA.out; rwa [List.take_length] at this⟩
      clear HA
      go_wp2
      go_ret
      exact ⟨by first | rfl | (rw [decide_eq_true G3.out]; rfl), HK0.out⟩

end Go.Proofs.YtfehiclbcebnoaaGreat

namespace Go.Proofs.YtfehiclbcebnoaaGreat
open Go.RowKit Go.Proofs.Heap Go.Proofs.Sch Go.Proofs.Wide

section
variable {P : Program} {ops : Array Oper}
theorem quiet_neq {Q : Act → Prop} {rest : List Oper} {a : Act} {o : Oper} {w : World} (hgd : o.guard = none) (t u : TypeId) (x y : Operand) (xs ys : Array Value) (b : Bool) (ho : o.op = .binOp .neq t x y u) (hx : a.eval x = .agg xs) (hy : a.eval y = .agg ys)
    (hm : P.eqGuardType P.depth t = false) (hl : (binOp .neq t (.agg xs) (.agg ys)).run P w = .ok (.bool b) w) (h : wpQuiet P ops (fun w' => w' = w) Q rest (a.put o.dst (.bool b))) : wpQuiet P ops (fun w' => w' = w) Q (o :: rest) a := by
  refine BigFrame.wpQuiet_want (by simp [Region.wanted, hgd]) fun K hK => ⟨.bool b, fun w' hw' => ?_, hK _ h⟩
  subst hw'
  have hg := fun (o1 o2 : Operand) => run_eqGuard_agg (P := P) (w := w') .neq t o1 o2 xs ys hm
  unfold Oper.quietAt execOp
  simp [ho, hx, hy, hl, hg]
  exact ⟨rfl, rfl⟩
end
theorem eq_wi (x y : WI) (w : World) : (Op.equalIn 10000 54 (WV x) (WV y)).run Tryz.prog w = .ok (x.neg == y.neg && ((x.hi : Int) == (y.hi : Int) && (x.lo : Int) == (y.lo : Int))) w := by
  have u1 := Tryz.underlying4
  have u2 := Tryz.underlying52
  have hS : Tryz.prog.underlying 54 = some (.struct (Tryz.prog.fieldsOf 54)) := by kernel_rfl
  have hp : Tryz.prog.stoodInHeld 54 = false := by kernel_rfl
  rw [show (10000 : Nat) = 9999 + 1 from rfl, run_equalIn_agg w 9999 54 _ _ hS hp]
  simp only [Program.fieldsOf, Tryz.underlying54]
  go_simp
  obtain ⟨n1, h1, l1⟩ := x
  obtain ⟨n2, h2, l2⟩ := y
  cases n1 <;> cases n2 <;> by_cases e1 : (h1 : Int) = (h2 : Int) <;> by_cases e2 : (l1 : Int) = (l2 : Int) <;> simp [e1, e2]
theorem neq_wi (x y : WI) (w : World) : (binOp .neq 54 (WV x) (WV y)).run Tryz.prog w = .ok (.bool (!(x.neg == y.neg && ((x.hi : Int) == (y.hi : Int) && (x.lo : Int) == (y.lo : Int))))) w := by
  rw [run_neq_struct, eq_wi]; rfl
theorem neq_same (x : WI) (w : World) : (binOp .neq 54 (WV x) (WV x)).run Tryz.prog w = .ok (.bool false) w := by
  rw [neq_wi]; simp
theorem neq_other {x y : WI} (h : x ≠ y) (w : World) : (binOp .neq 54 (WV x) (WV y)).run Tryz.prog w = .ok (.bool true) w := by
  rw [neq_wi]
  cases e : (x.neg == y.neg && ((x.hi : Int) == (y.hi : Int) && (x.lo : Int) == (y.lo : Int)))
  · rfl
  · exfalso
    simp only [Bool.and_eq_true, beq_iff_eq] at e
    obtain ⟨n1, h1, l1⟩ := x
    obtain ⟨n2, h2, l2⟩ := y
    obtain ⟨e1, e2, e3⟩ := e
    simp only at e1 e2 e3
    exact h (by rw [e1, show h1 = h2 by omega, show l1 = l2 by omega])
end Go.Proofs.YtfehiclbcebnoaaGreat

namespace Go.Proofs.YtfehiclbcebnoaaGreat
open Go.RowKit Go.Proofs.Heap Go.Proofs.Sch Go.Proofs.Wide

set_option maxRecDepth 20000 in
set_option maxHeartbeats 8000000 in
theorem sz_same (l : List Prt) (p q : Option Addr) (c d : Nat) (w : World) (hl : l.length ≤ 65536) (hv : ∀ x ∈ l, x.vals.length ≤ 65536) (hx : PP w w.heap.size p l) (hy : PP w w.heap.size q l) :
    Calls Tryz.prog 11 #[.slice p l.length c, .slice q l.length d] w fun r w' => r = .returned (.bool true) ∧ Keep (fun _ => False) w w' := by
  have HX := hid hx; have HY := hid hy; have HV := hid hv
  clear hx hy hv
  have g0 : ((l.length : Int) != (l.length : Int)) = false := by simp
  have g0' : (l.length != l.length) = false := by simp
  go_enter Tryz.func11, Tryz.ntmps11
  go_wp2_with fail
  clear g0 g0'
  go_loopw [5, 6] (fun i _ wr => ∃ k : Nat, k ≤ l.length ∧ i = iV k ∧ Keep (fun _ => False) w wr) (fun i _ _ => l.length + 1 - (RowKit.intOf i).toNat)
  case atStart => exact ⟨0, Nat.zero_le _, rfl, Keep.refl _ _⟩
  case round =>
    obtain ⟨k, hk, rfl, hkr⟩ := hrel
    have HKR := hid hkr
    clear hkr
    by_cases hlt : k < l.length
    · obtain ⟨x, hxk⟩ : ∃ x, l[k]? = some x := ⟨l[k], by simp [hlt]⟩
      obtain ⟨b1, o1, q1, c1, rfl, hb1, x0, x1, _, hx1⟩ := PP.at (PP.low HX.out (Low.keep0 HKR.out.drew)) hxk
      obtain ⟨b2, o2, q2, c2, rfl, hb2, y0, y1, _, hy1⟩ := PP.at (PP.low HY.out (Low.keep0 HKR.out.drew)) hxk
      have hin : (0 : Int) ≤ (k : Int) ∧ (k : Int) < (l.length : Int) := ⟨by omega, by omega⟩
      have HXV := hid (HV.out x (List.mem_of_getElem? hxk))
      have HX1 := hid hx1; have HY1 := hid hy1
      have g1 : ((x.vals.length : Int) != (x.vals.length : Int)) = false := by simp
      have g2 : (x.comp != x.comp) = false := by simp
      have HX0 := hid x1; have HY0 := hid y1
      clear hxk hx1 hy1
      go_upto_region 6 with fail
      refine Plan.wp_region_reads (by as_aux_lemma => kernel_rfl) (by as_aux_lemma => kernel_rfl) ?_
      repeat (go_big_quiet_step (fail))
      refine wpQuiet_nil ?_
      clear x0 x1 y0 y1
      have HKD := hid HKR.out.drew
      generalize wr.drew = wd at *
      obtain ⟨vs, hvs⟩ : ∃ vs, x.vals = vs := ⟨_, rfl⟩
      rw [hvs] at HXV HX1 HY1 HX0 HY0 g1 ⊢
      obtain ⟨n, hn⟩ : ∃ n, vs.length = n := ⟨_, rfl⟩
      have HN := hid hn
      have HX0' : Hid (wd.cell? ⟨b1, o1 + k * 2 + 1, none⟩ = some (.slice q1 n c1)) := hid (by rw [← hn]; exact HX0.out)
      have HY0' : Hid (wd.cell? ⟨b2, o2 + k * 2 + 1, none⟩ = some (.slice q2 n c2)) := hid (by rw [← hn]; exact HY0.out)
      rw [hn] at g1 HXV ⊢
      clear hn hvs HX0 HY0
      have hnn := HXV.out
      go_wp2_with fail
      clear g1 g2
      go_loopw [6] (fun i wy => ∃ j : Nat, j ≤ n ∧ i = iV j ∧ Keep (fun _ => False) wd wy) (fun i _ => n + 1 - (RowKit.intOf i).toNat)
      case atStart => exact ⟨0, Nat.zero_le _, rfl, Keep.refl _ _⟩
      case round =>
        obtain ⟨j, hj, rfl, hky⟩ := hrel
        have HKY := hid hky
        clear hky
        have HB1 : Hid (b1 < wd.heap.size) := hid (World.block_lt_of_cell? wd _ HX0'.out)
        have HB2 : Hid (b2 < wd.heap.size) := hid (World.block_lt_of_cell? wd _ HY0'.out)
        have x1 := ((Low.keep0 HKY.out).cell (o := o1 + k * 2 + 1) HB1.out).trans HX0'.out
        by_cases hjt : j < n
        · obtain ⟨y, hyj⟩ : ∃ y, vs[j]? = some y := ⟨vs[j]'(by rw [HN.out]; exact hjt), by simp [HN.out, hjt]⟩
          obtain ⟨b3, o3, rfl, hb3, u0, u1, u2⟩ := XP.at (XP.low HX1.out (Low.of_keep HKY.out.drew HKD.out.size (fun _ h => h.elim))) hyj
          obtain ⟨b4, o4, rfl, hb4, v0, v1, v2⟩ := XP.at (XP.low HY1.out (Low.of_keep HKY.out.drew HKD.out.size (fun _ h => h.elim))) hyj
          have hin2 : (0 : Int) ≤ (j : Int) ∧ (j : Int) < (n : Int) := ⟨by omega, by omega⟩
          have hcmp := neq_same y wr.drew
          clear hyj
          go_upto_region 11 with fail
          clear x1
          have x1 := ((Low.keep0 HKY.out.drew).cell (o := o1 + k * 2 + 1) HB1.out).trans HX0'.out
          have y1 := ((Low.keep0 HKY.out.drew).cell (o := o2 + k * 2 + 1) HB2.out).trans HY0'.out
          refine Plan.wp_region_reads (by as_aux_lemma => kernel_rfl) (by as_aux_lemma => kernel_rfl) ?_
          repeat (go_big_quiet_step (fail))
          refine wpQuiet_nil ?_
          clear x1 y1 u0 u1 u2 v0 v1 v2 hcmp
          go_wp2
          go_roundw
          case rel => exact ⟨j + 1, by omega, by go_num, HKY.out.drew⟩
          case measure => simp [RowKit.intOf]; omega
        · obtain rfl : j = n := by omega
          have g1 : decide ((j : Int) < (j : Int)) = false := decide_eq_false (by omega)
          go_wp2
          go_roundw
          case rel => exact ⟨k + 1, by omega, by go_num, HKD.out.trans HKY.out⟩
          case measure => simp [RowKit.intOf]; omega
    · obtain rfl : k = l.length := by omega
      go_wp2
      go_ret
      exact ⟨rfl, HKR.out⟩
end Go.Proofs.YtfehiclbcebnoaaGreat

namespace Go.Proofs.YtfehiclbcebnoaaGreat
open Go.RowKit Go.Proofs.Heap Go.Proofs.Sch Go.Proofs.Wide

theorem vals_leZ {v : Int} {cs : List Cmp} {l : List Prt} (h : prtsC v cs l = 0) : ∀ x ∈ l, x.vals.length ≤ 65536 := fun x hx => by
  obtain ⟨c, _, _, _, _, hz⟩ := partC_find (partsC_all [] l (prtsC_ok h).2.1 x hx)
  obtain ⟨h0, h1, _⟩ := fitC_zero hz
  have h2 := layC_zero h0
  have h3 := sumN_le c.fs h2.2
  omega
theorem goodP_ok {v : Int} {cs : List Cmp} {s : ByteArray} (h : goodP v cs s = true) : prtsC v cs (decPL v cs s) = 0 := by
  have hg := h
  unfold goodP at hg
  cases ho : ptsOf cs s with
  | none => rw [ho] at hg; cases hg
  | some q =>
    obtain ⟨l, st⟩ := q
    rw [ho] at hg
    simp only [Bool.and_eq_true, decide_eq_true_eq] at hg
    have e : decPL v cs s = l := by unfold decPL; rw [ho]; simp only [h, if_true]
    rw [e]; exact hg.2

set_option maxRecDepth 20000 in
set_option maxHeartbeats 32000000 in
theorem sc_parts (v : Int) (cs : List Cmp) (pa : Option Addr) (ca : Nat) (l : List Prt) (q : Option Addr) (qc : Nat) (bytes : ByteArray) (w : World) (hA : CP w w.heap.size pa cs) (hqc : l.length ≤ qc) (hP : PP w w.heap.size q l) (hF : ∀ x ∈ l, ∀ y ∈ x.vals, y.fit) :
    Calls Tryz.prog 3 #[.agg #[.int .i64 v, .slice pa cs.length ca], .slice q l.length qc, .string bytes] w fun r w' => r = .returned (.bool true) ∧ Keep (fun _ => False) w w' := by
  obtain ⟨w1, hw1, hb1, hs1, hk1⟩ := box1 w #[.int .i64 v, .slice pa cs.length ca] 24
  have HK1 := hid hk1; have HA1 := hid hb1
  have HIA := hid (fun (wy : World) (hk : Keep (fun _ => False) w wy) => CP.mono (CP.low hA (Low.keep0 hk)) hk.size)
  have HIP := hid (fun (wy : World) (hk : Keep (fun _ => False) w wy) => PP.mono (PP.low hP (Low.keep0 hk)) hk.size)
  have HFT := hid hF; have HQC := hid hqc
  clear hb1 hs1 hk1 hA hP hF hqc
  go_enter Tryz.func3, Tryz.ntmps3
  go_upto_region 1 with fail
  rw [← hw1]
  clear hw1
  generalize w.heap.size = aB at *
  go_wp2_with fail
  refine (sc_awake w1).mono ?_
  rintro r w2 ⟨rfl, hk⟩
  have HA2 := hid (hk.get HA1.out id); have HK2 := hid (HK1.out.trans hk)
  clear hk
  have a0 := cell_of HA2.out (i := 0) (by rfl)
  have a1 := cell_of HA2.out (i := 1) (by rfl)
  go_wp2_with fail
  refine (sz_great v cs pa ca w2 (HIA.out w2 HK2.out)).mono ?_
  rintro r w3 ⟨rfl, hk⟩
  have HA3 := hid (hk.get HA2.out id); have HK3 := hid (HK2.out.trans hk)
  clear hk
  clear a0 a1
  by_cases ga : FairZS cs
  rotate_left
  · rw [decide_eq_false ga]
    clear ga
    go_wp2
    go_ret
    exact ⟨rfl, HK3.out⟩
  rw [decide_eq_true ga]
  have HSA := hid ga.small
  clear ga
  by_cases hl : 12 < l.length
  · have g1 : decide ((12 : Int) < (l.length : Int)) = true := decide_eq_true (by omega)
    have g2 : decide (12 < l.length) = true := decide_eq_true hl
    go_wp2
    go_ret
    exact ⟨rfl, HK3.out⟩
  have g1 : decide ((12 : Int) < (l.length : Int)) = false := decide_eq_false (by omega)
  have g2 : decide (12 < l.length) = false := decide_eq_false hl
  have hl12 : l.length ≤ 12 := by omega
  have HLL := hid hl12
  clear hl
  by_cases hb : 4096 < bytes.size
  · have g3 : decide ((4096 : Int) < (bytes.size : Int)) = true := decide_eq_true (by omega)
    have g4 : decide (4096 < bytes.size) = true := decide_eq_true hb
    go_wp2
    go_ret
    exact ⟨rfl, HK3.out⟩
  have g3 : decide ((4096 : Int) < (bytes.size : Int)) = false := decide_eq_false (by omega)
  have g4 : decide (4096 < bytes.size) = false := decide_eq_false hb
  have HBS : Hid (bytes.size ≤ 4096) := hid (by omega)
  clear hb
  go_wp2_with fail
  clear g1 g2 g3 g4
  go_loopw [7] (fun i wr => ∃ k : Nat, k ≤ l.length ∧ i = iV k ∧ Keep (fun _ => False) w3 wr) (fun i _ => l.length + 1 - (RowKit.intOf i).toNat)
  case atStart => exact ⟨0, Nat.zero_le _, rfl, Keep.refl _ _⟩
  case round =>
    obtain ⟨k, hk, rfl, hkr⟩ := hrel
    have HKR := hid (HK3.out.trans hkr); have HAR := hid (hkr.get HA3.out id); have HK3R := hid hkr
    clear hkr
    by_cases hlt : k < l.length
    · obtain ⟨x, hx⟩ : ∃ x, l[k]? = some x := ⟨l[k], by simp [hlt]⟩
      obtain ⟨b, off, fq, fk, rfl, hb, d0, d1, hfk, hxp⟩ := PP.at (HIP.out wr HKR.out) hx
      have hin : (0 : Int) ≤ (k : Int) ∧ (k : Int) < (l.length : Int) := ⟨by omega, by omega⟩
      obtain ⟨n, hn⟩ : ∃ n, x.vals.length = n := ⟨_, rfl⟩
      rw [hn] at d1
      clear hx hb d0 hfk hxp hn
      by_cases hv : 100 < n
      · have g1 : decide ((100 : Int) < (n : Int)) = true := decide_eq_true (by omega)
        have g2 : decide (100 < n) = true := decide_eq_true hv
        go_wp2
        go_ret
        exact ⟨rfl, HKR.out⟩
      have g1 : decide ((100 : Int) < (n : Int)) = false := decide_eq_false (by omega)
      have g2 : decide (100 < n) = false := decide_eq_false hv
      go_wp2
      go_roundw
      case rel => exact ⟨k + 1, by omega, by go_num, HK3R.out⟩
      case measure => simp [RowKit.intOf]; omega
    · obtain rfl : k = l.length := by omega
      have g1 : decide ((l.length : Int) < (l.length : Int)) = false := decide_eq_false (by omega)
      clear HK3R hlt hk
      have a0 := cell_of HAR.out (i := 0) (by rfl)
      have a1 := cell_of HAR.out (i := 1) (by rfl)
      go_wp2_with fail
      refine (sc_encodeParts v cs pa ca l q qc wr HSA.out (by have := HLL.out; omega) HQC.out HFT.out (HIA.out wr HKR.out) (HIP.out wr HKR.out)).mono ?_
      rintro r w4 ⟨rfl, hk⟩
      have HA4 := hid (hk.get HAR.out id); have HK4 := hid (HKR.out.trans hk)
      have HREF := hid (r_parts8 v cs pa ca l q qc w4 HSA.out (by have := HLL.out; omega) HFT.out (HIA.out w4 HK4.out) (HIP.out w4 HK4.out))
      clear hk g1
      clear a0 a1
      generalize encP v cs l = ez at *
      generalize prtsC v cs l = C at *
      have hse : (!ez.toList == ez.toList) = false := by simp
      have hcc : ((C : Int) != (C : Int)) = false := by simp
      have hcc2 : (C != C) = false := by simp
      have a0 := cell_of HA4.out (i := 0) (by rfl)
      have a1 := cell_of HA4.out (i := 1) (by rfl)
      go_wp2_with fail
      refine HREF.out.mono ?_
      rintro r w5 ⟨rfl, hk⟩
      have HA5 := hid (hk.get HA4.out id); have HK5 := hid (HK4.out.trans hk)
      clear hk HREF
      clear a0 a1
      have a0 := cell_of HA5.out (i := 0) (by rfl)
      have a1 := cell_of HA5.out (i := 1) (by rfl)
      go_wp2_with fail
      refine (sc_decodeParts v cs pa ca bytes w5 HSA.out (by have := HBS.out; omega) (HIA.out w5 HK5.out)).mono ?_
      rintro r w6 ⟨p6, c6, rfl, hpp, hpl, hk⟩
      have HA6 := hid (hk.get HA5.out id); have HK6 := hid (HK5.out.trans hk); have HPP6 := hid hpp
      clear hk hpp hpl hse hcc hcc2
      clear a0 a1
      have a0 := cell_of HA6.out (i := 0) (by rfl)
      have a1 := cell_of HA6.out (i := 1) (by rfl)
      have HCH := hid (r_check v cs pa ca w6 HSA.out (HIA.out w6 HK6.out))
      have HPE : Hid (decPE v cs bytes = if checkC v cs = 0 then (if goodP v cs bytes = true then 0 else 4) else checkC v cs) := hid rfl
      have HPL : Hid (goodP v cs bytes = false → (decPL v cs bytes).length = 0) := hid (fun h => by rw [decPL_no h]; rfl)
      by_cases hz : checkC v cs = 0
      rotate_left
      · have hg : goodP v cs bytes = false := goodP_no (fun l st _ hp _ _ => hz (prtsC_ok hp).1)
        have HL0 := HPL.out hg
        have he : decPE v cs bytes = checkC v cs := HPE.out.trans (if_neg hz)
        rw [he, HL0]
        obtain ⟨R, hR⟩ : ∃ R, checkC v cs = R := ⟨_, rfl⟩
        rw [hR] at hz HCH ⊢
        have g1 : ((R : Int) != 0) = true := by rw [bne_iff_ne]; omega
        have g2 : (R != 0) = true := by rw [bne_iff_ne]; exact hz
        clear hR hg HL0 he hz
        go_wp2_with fail
        refine HCH.out.mono ?_
        rintro r w7 ⟨rfl, hk⟩
        have HK7 := hid (HK6.out.trans hk)
        clear hk
        go_wp2
        go_ret
        exact ⟨rfl, HK7.out⟩
      have HZ := hid hz
      rw [hz] at HCH
      have HE : Hid ((goodP v cs bytes = true → decPE v cs bytes = 0) ∧ (goodP v cs bytes = false → decPE v cs bytes = 4)) := hid (by
        rw [HPE.out, if_pos hz]
        exact ⟨fun h => by rw [h]; rfl, fun h => by rw [h]; rfl⟩)
      generalize decPE v cs bytes = E at *
      clear hz
      go_wp2_with fail
      refine HCH.out.mono ?_
      rintro r w7 ⟨rfl, hk⟩
      have HA7 := hid (hk.get HA6.out id); have HK7 := hid (HK6.out.trans hk)
      have HPP7 := hid (PP.mono (PP.low HPP6.out (Low.keep0 hk)) hk.size)
      clear hk HCH
      clear a0 a1
      have a0 := cell_of HA7.out (i := 0) (by rfl)
      have a1 := cell_of HA7.out (i := 1) (by rfl)
      go_wp2_with fail
      refine (r_readParts8 v cs pa ca bytes w7 HZ.out (by have := HBS.out; omega) (HIA.out w7 HK7.out)).mono ?_
      rintro r w8 ⟨p8, c8, u, rfl, hu, hup, hul, hk⟩
      have HK8 := hid (HK7.out.trans hk); have HUP := hid hup; have HU := hid hu; have HUL := hid hul
      have HPP8 := hid (PP.mono (PP.low HPP7.out (Low.keep0 hk)) hk.size)
      have HGO := hid (fun h : goodP v cs bytes = true => goodP_ok h)
      clear hk hup hu hul
      clear a0 a1
      cases hg : goodP v cs bytes
      · have HL0 := HPL.out hg
        have he := HE.out.2 hg
        rw [HL0]
        subst he
        clear HL0 hg
        go_wp2
        go_ret
        exact ⟨rfl, HK8.out⟩
      · have he := HU.out hg
        have hv := vals_leZ (HGO.out hg)
        rw [← he] at hv HPP8
        have hee := HE.out.1 hg
        rw [← he]
        subst hee
        have HSM := hid (sz_same u p6 p8 c6 c8 w8 (by have := HUL.out; omega) hv HPP8.out HUP.out)
        have hu255 := HUL.out
        clear he hv hg
        go_wp2_with fail
        refine HSM.out.mono ?_
        rintro r w9 ⟨rfl, hk⟩
        have HK9 := hid (HK8.out.trans hk)
        clear hk
        go_wp2
        go_ret
        exact ⟨rfl, HK9.out⟩
end Go.Proofs.YtfehiclbcebnoaaGreat

namespace Go.Proofs.YtfehiclbcebnoaaGreat
open Go.ChangeShapes Go.WideShapes Go.ChangeAt Go.RowKit Go.Proofs.Heap Go.Proofs.Sch

section
variable {H : Type} {enc : TypeId × Value → H} {W : World}

theorem addr_add (b off i : Nat) : (⟨b, off, none⟩ : Addr).add i = ⟨b, off + i, none⟩ := by unfold Addr.add; split <;> simp_all

/-- A row of things that a law is handed. -/
theorem open_row {α : Type} {z : Nat} {t e : TypeId} (ht : Tryz.prog.underlying t = some (.slice e)) (hsz : Tryz.prog.cellsOf e = z) (at_ : World → Nat → Nat → α → Prop)
    (hel : ∀ (a : Addr) (n : Nat) (cs : List Value) (D : DataW H × List MemPlace), W.cells? 0 a z = some cs → DataW.trod enc Tryz.prog W 0 (fun _ => true) true n e cs = some D → a.spot = none ∧ a.block < W.heap.size ∧ ∃ x : α, at_ W a.block a.off x)
    {fuel : Nat} {cs : List Value} {x : DataW H × List MemPlace} (h : DataW.trod enc Tryz.prog W 0 (fun _ => true) true fuel t cs = some x) :
    ∃ (p : Option Addr) (c : Nat) (l : List α), cs = [.slice p l.length c] ∧ l.length ≤ c ∧ RowP z at_ W W.heap.size p l := by
  rcases Go.Deep.open_slice ht h with ⟨hcs, _⟩ | ⟨a, len, cap, m, n, D, Pl, hcs, _, hl, hm, hz', _, hcell⟩
  · exact ⟨none, 0, [], hcs, Nat.le_refl _, .inl rfl⟩
  · have hmc : m = cap := by simpa using hz'
    subst hmc
    rw [hsz] at hcell
    by_cases hl0 : len = 0
    · subst hl0
      exact ⟨some a, m, [], hcs, Nat.zero_le _, .inl rfl⟩
    · obtain ⟨b, off, spot⟩ := a
      have hblk : spot = none ∧ b < W.heap.size := by
        obtain ⟨cs', hc1, hc2⟩ := hcell 0 (by omega)
        obtain ⟨h1, h2, _⟩ := hel _ _ _ _ hc1 hc2
        refine ⟨?_, by simpa [Addr.add] using h2⟩
        simpa [Addr.add] using h1
      obtain ⟨rfl, hb⟩ := hblk
      have key : ∀ k, k ≤ len → ∃ l : List α, l.length = k ∧ ∀ i y, l[i]? = some y → at_ W b (off + i * z) y := by
        intro k
        induction k with
        | zero => exact fun _ => ⟨[], rfl, fun i y hy => by simp at hy⟩
        | succ k ih =>
          intro hk
          obtain ⟨l, hll, hla⟩ := ih (by omega)
          obtain ⟨cs', hc1, hc2⟩ := hcell k (by omega)
          obtain ⟨_, _, y, hy⟩ := hel _ _ _ _ hc1 hc2
          rw [addr_add] at hy
          refine ⟨l ++ [y], by simp [hll], fun i u hu => ?_⟩
          by_cases hik : i < k
          · rw [List.getElem?_append_left (by omega)] at hu
            exact hla i u hu
          · rw [List.getElem?_append_right (by omega)] at hu
            have : i = k := by
              have := (List.getElem?_eq_some_iff.1 hu).1
              simp at this
              omega
            subst this
            simp [hll] at hu
            subst hu
            exact hy
      obtain ⟨l, hll, hla⟩ := key len (Nat.le_refl _)
      subst hll
      exact ⟨_, m, l, hcs, hl, .inr ⟨b, off, rfl, hb, hla⟩⟩

theorem spot_of {a : Addr} {v : Value} (h : W.cell? (a.add 0) = some v) : a.spot = none ∧ a.block < W.heap.size := by
  obtain ⟨b, off, spot⟩ := a
  have h1 : spot = none := by simpa [Addr.add] using World.cell?_spot h
  subst h1
  rw [addr_add] at h
  exact ⟨rfl, World.block_lt_of_cell? W _ h⟩

set_option maxRecDepth 100000 in
theorem open_field (a : Addr) (n : Nat) (cs : List Value) (D : DataW H × List MemPlace) (hc : W.cells? 0 a 3 = some cs) (h : DataW.trod enc Tryz.prog W 0 (fun _ => true) true n 45 cs = some D) :
    a.spot = none ∧ a.block < W.heap.size ∧ ∃ x : Fld, FldAt W a.block a.off x := by
  have hs_int : Tryz.prog.cellsOf 3 = 1 := by kernel_rfl
  have hs_string : Tryz.prog.cellsOf 9 = 1 := by kernel_rfl
  have hs_kind : Tryz.prog.cellsOf 43 = 1 := by kernel_rfl
  obtain ⟨_, hlen, hat⟩ := World.cells?_some hc
  obtain ⟨y0, y1, y2, n', _, _, t0, t1, t2⟩ := Go.Deep.trod_struct3 Tryz.underlying45 h
  match cs, hlen with
  | [u0, u1, u2], _ =>
    have g0 := hat 0 (by omega)
    have g1 := hat 1 (by omega)
    have g2 := hat 2 (by omega)
    simp only [hs_int, hs_string, hs_kind, List.drop, List.take] at t0 t1 t2
    obtain ⟨K0, eK0, _, _⟩ := DataW.trod_string Tryz.underlying9 t0
    obtain ⟨K1, eK1, _, _⟩ := DataW.trod_int Tryz.underlying43 t1
    obtain ⟨K2, eK2, _, _⟩ := DataW.trod_int Tryz.underlying3 t2
    simp at eK0 eK1 eK2
    subst eK0; subst eK1; subst eK2
    obtain ⟨h1, h2⟩ := spot_of g0
    obtain ⟨b, off, spot⟩ := a
    simp only at h1 h2
    subst h1
    rw [addr_add] at g0 g1 g2
    exact ⟨rfl, h2, ⟨K0, K1, K2⟩, g0, g1, g2⟩

set_option maxRecDepth 100000 in
theorem open_fields {fuel : Nat} {cs : List Value} {x : DataW H × List MemPlace} (h : DataW.trod enc Tryz.prog W 0 (fun _ => true) true fuel 46 cs = some x) :
    ∃ (p : Option Addr) (c : Nat) (l : List Fld), cs = [.slice p l.length c] ∧ l.length ≤ c ∧ FP W W.heap.size p l :=
  open_row Tryz.underlying46 (by kernel_rfl) FldAt (fun a n cs D hc h => open_field a n cs D hc h) h

set_option maxRecDepth 100000 in
theorem open_comp (a : Addr) (n : Nat) (cs : List Value) (D : DataW H × List MemPlace) (hc : W.cells? 0 a 3 = some cs) (h : DataW.trod enc Tryz.prog W 0 (fun _ => true) true n 48 cs = some D) :
    a.spot = none ∧ a.block < W.heap.size ∧ ∃ x : Cmp, CmpAt W.heap.size W a.block a.off x := by
  have hs_int : Tryz.prog.cellsOf 3 = 1 := by kernel_rfl
  have hs_string : Tryz.prog.cellsOf 9 = 1 := by kernel_rfl
  have hs_fields : Tryz.prog.cellsOf 46 = 1 := by kernel_rfl
  obtain ⟨_, hlen, hat⟩ := World.cells?_some hc
  obtain ⟨y0, y1, y2, n', _, _, t0, t1, t2⟩ := Go.Deep.trod_struct3 Tryz.underlying48 h
  match cs, hlen with
  | [u0, u1, u2], _ =>
    have g0 := hat 0 (by omega)
    have g1 := hat 1 (by omega)
    have g2 := hat 2 (by omega)
    simp only [hs_int, hs_string, hs_fields, List.drop, List.take] at t0 t1 t2
    obtain ⟨K0, eK0, _, _⟩ := DataW.trod_int Tryz.underlying3 t0
    obtain ⟨K1, eK1, _, _⟩ := DataW.trod_string Tryz.underlying9 t1
    obtain ⟨p, c, l, eK2, hlc, hfp⟩ := open_fields t2
    simp at eK0 eK1 eK2
    subst eK0; subst eK1; subst eK2
    obtain ⟨h1, h2⟩ := spot_of g0
    obtain ⟨b, off, spot⟩ := a
    simp only at h1 h2
    subst h1
    rw [addr_add] at g0 g1 g2
    exact ⟨rfl, h2, ⟨K0, K1, l⟩, g0, g1, p, c, g2, hlc, hfp⟩

set_option maxRecDepth 100000 in
theorem open_comps {fuel : Nat} {cs : List Value} {x : DataW H × List MemPlace} (h : DataW.trod enc Tryz.prog W 0 (fun _ => true) true fuel 22 cs = some x) :
    ∃ (p : Option Addr) (c : Nat) (l : List Cmp), cs = [.slice p l.length c] ∧ l.length ≤ c ∧ CP W W.heap.size p l :=
  open_row Tryz.underlying22 (by kernel_rfl) (CmpAt W.heap.size) (fun a n cs D hc h => open_comp a n cs D hc h) h

set_option maxRecDepth 100000 in
/-- A schema that a law is handed. -/
theorem open_schema {v : Value} {r : Reach} {b : Nat} (hv : Value.okWide Tryz.prog W r b 24 v) {fuel : Nat} {x : DataW H × List MemPlace} (h : DataW.trod enc Tryz.prog W 0 (fun _ => true) true fuel 24 v.cells.toList = some x) :
    ∃ (k : Int) (p : Option Addr) (c : Nat) (l : List Cmp), v = .agg #[.int .i64 k, .slice p l.length c] ∧ l.length ≤ c ∧ CP W W.heap.size p l := by
  have hs_int : Tryz.prog.cellsOf 3 = 1 := by kernel_rfl
  have hs_comps : Tryz.prog.cellsOf 22 = 1 := by kernel_rfl
  have hs : Tryz.prog.cellsOf 24 = 2 := by kernel_rfl
  unfold Value.okWide at hv
  rw [Tryz.underlying24] at hv
  obtain ⟨cs, rfl, hsz, _⟩ := hv
  rw [hs] at hsz
  obtain ⟨⟨u0, u1, rfl⟩⟩ : Nonempty (∃ u0 u1, cs = #[u0, u1]) := by
    obtain ⟨l⟩ := cs
    match l, hsz with
    | [u0, u1], _ => exact ⟨u0, u1, rfl⟩
  obtain ⟨y0, y1, n', _, _, t0, t1⟩ := trod_struct2 Tryz.underlying24 h
  simp only [Value.cells, hs_int, hs_comps, List.drop, List.take] at t0 t1
  obtain ⟨K0, eK0, _, _⟩ := DataW.trod_int Tryz.underlying3 t0
  obtain ⟨p, c, l, eK1, hlc, hcp⟩ := open_comps t1
  simp at eK0 eK1
  subst eK0; subst eK1
  exact ⟨K0, p, c, l, rfl, hlc, hcp⟩
end
end Go.Proofs.YtfehiclbcebnoaaGreat

namespace Go.Proofs.YtfehiclbcebnoaaGreat
open Go.ChangeShapes Go.WideShapes Go.ChangeAt Go.RowKit Go.Proofs.Heap Go.Proofs.Sch Go.Proofs.Wide

section
variable {H : Type} {enc : TypeId × Value → H} {W : World}

theorem u64_wf {z : Int} (h : (Lit.int .u64 z).wf = true) : 0 ≤ z ∧ z < 18446744073709551616 := by
  have h : IntKind.u64.min ≤ z ∧ z ≤ IntKind.u64.max := by simpa [Lit.wf] using h
  have h1 : IntKind.u64.min = 0 := by decide
  have h2 : IntKind.u64.max = 18446744073709551615 := by decide
  omega

def IntFit (w : World) (b o : Nat) (x : WI) : Prop := IntAt w b o x ∧ x.fit

set_option maxRecDepth 100000 in
theorem open_wide (a : Addr) (n : Nat) (cs : List Value) (D : DataW H × List MemPlace) (hc : W.cells? 0 a 3 = some cs) (h : DataW.trod enc Tryz.prog W 0 (fun _ => true) true n 54 cs = some D) :
    a.spot = none ∧ a.block < W.heap.size ∧ ∃ x : WI, IntFit W a.block a.off x := by
  have hs_bool : Tryz.prog.cellsOf 4 = 1 := by kernel_rfl
  have hs_u64 : Tryz.prog.cellsOf 52 = 1 := by kernel_rfl
  obtain ⟨_, hlen, hat⟩ := World.cells?_some hc
  obtain ⟨y0, y1, y2, n', _, _, t0, t1, t2⟩ := Go.Deep.trod_struct3 Tryz.underlying54 h
  match cs, hlen with
  | [u0, u1, u2], _ =>
    have g0 := hat 0 (by omega)
    have g1 := hat 1 (by omega)
    have g2 := hat 2 (by omega)
    simp only [hs_bool, hs_u64, List.drop, List.take] at t0 t1 t2
    obtain ⟨K0, eK0, _⟩ := DataW.trod_bool Tryz.underlying4 t0
    obtain ⟨K1, eK1, _, w1⟩ := DataW.trod_int Tryz.underlying52 t1
    obtain ⟨K2, eK2, _, w2⟩ := DataW.trod_int Tryz.underlying52 t2
    simp at eK0 eK1 eK2
    subst eK0; subst eK1; subst eK2
    have b1 := u64_wf w1
    have b2 := u64_wf w2
    obtain ⟨N1, rfl⟩ := Int.eq_ofNat_of_zero_le b1.1
    obtain ⟨N2, rfl⟩ := Int.eq_ofNat_of_zero_le b2.1
    obtain ⟨h1, h2⟩ := spot_of g0
    obtain ⟨b, off, spot⟩ := a
    simp only at h1 h2
    subst h1
    rw [addr_add] at g0 g1 g2
    exact ⟨rfl, h2, ⟨K0, N1, N2⟩, ⟨g0, g1, g2⟩, by unfold WI.fit; simp only; omega⟩

theorem open_wides {fuel : Nat} {cs : List Value} {x : DataW H × List MemPlace} (h : DataW.trod enc Tryz.prog W 0 (fun _ => true) true fuel 28 cs = some x) :
    ∃ (p : Option Addr) (c : Nat) (l : List WI), cs = [.slice p l.length c] ∧ l.length ≤ c ∧ XP W W.heap.size p l ∧ ∀ y ∈ l, y.fit := by
  obtain ⟨p, c, l, h1, h2, h3⟩ := open_row Tryz.underlying28 (by kernel_rfl) IntFit (fun a n cs D hc h => open_wide a n cs D hc h) h
  refine ⟨p, c, l, h1, h2, RowP.imp h3 (Nat.le_refl _) (fun _ _ _ _ h => h.1), fun y hy => ?_⟩
  rcases h3 with rfl | ⟨b, off, _, _, hc⟩
  · cases hy
  · obtain ⟨i, hi⟩ := List.getElem?_of_mem hy
    exact (hc i y hi).2

def PrtFit (B : Nat) (w : World) (b o : Nat) (x : Prt) : Prop := PrtAt B w b o x ∧ ∀ y ∈ x.vals, y.fit

set_option maxRecDepth 100000 in
theorem open_part (a : Addr) (n : Nat) (cs : List Value) (D : DataW H × List MemPlace) (hc : W.cells? 0 a 2 = some cs) (h : DataW.trod enc Tryz.prog W 0 (fun _ => true) true n 30 cs = some D) :
    a.spot = none ∧ a.block < W.heap.size ∧ ∃ x : Prt, PrtFit W.heap.size W a.block a.off x := by
  have hs_int : Tryz.prog.cellsOf 3 = 1 := by kernel_rfl
  have hs_ints : Tryz.prog.cellsOf 28 = 1 := by kernel_rfl
  obtain ⟨_, hlen, hat⟩ := World.cells?_some hc
  obtain ⟨y0, y1, n', _, _, t0, t1⟩ := trod_struct2 Tryz.underlying30 h
  match cs, hlen with
  | [u0, u1], _ =>
    have g0 := hat 0 (by omega)
    have g1 := hat 1 (by omega)
    simp only [hs_int, hs_ints, List.drop, List.take] at t0 t1
    obtain ⟨K0, eK0, _, _⟩ := DataW.trod_int Tryz.underlying3 t0
    obtain ⟨p, c, l, eK1, hlc, hxp, hxf⟩ := open_wides t1
    simp at eK0 eK1
    subst eK0; subst eK1
    obtain ⟨h1, h2⟩ := spot_of g0
    obtain ⟨b, off, spot⟩ := a
    simp only at h1 h2
    subst h1
    rw [addr_add] at g0 g1
    exact ⟨rfl, h2, ⟨K0, l⟩, ⟨g0, p, c, g1, hlc, hxp⟩, hxf⟩

theorem open_parts {fuel : Nat} {cs : List Value} {x : DataW H × List MemPlace} (h : DataW.trod enc Tryz.prog W 0 (fun _ => true) true fuel 25 cs = some x) :
    ∃ (p : Option Addr) (c : Nat) (l : List Prt), cs = [.slice p l.length c] ∧ l.length ≤ c ∧ PP W W.heap.size p l ∧ ∀ x ∈ l, ∀ y ∈ x.vals, y.fit := by
  obtain ⟨p, c, l, h1, h2, h3⟩ := open_row Tryz.underlying25 (by kernel_rfl) (PrtFit W.heap.size) (fun a n cs D hc h => open_part a n cs D hc h) h
  refine ⟨p, c, l, h1, h2, RowP.imp h3 (Nat.le_refl _) (fun _ _ _ _ h => h.1), fun y hy => ?_⟩
  rcases h3 with rfl | ⟨b, off, _, _, hc⟩
  · cases hy
  · obtain ⟨i, hi⟩ := List.getElem?_of_mem hy
    exact (hc i y hi).2

set_option maxRecDepth 100000 in
/-- Parts that a law is handed. -/
theorem open_parts_of {v : Value} {r : Reach} {b : Nat} (hv : Value.okWide Tryz.prog W r b 25 v) {fuel : Nat} {x : DataW H × List MemPlace} (h : DataW.trod enc Tryz.prog W 0 (fun _ => true) true fuel 25 v.cells.toList = some x) :
    ∃ (p : Option Addr) (c : Nat) (l : List Prt), v = .slice p l.length c ∧ l.length ≤ c ∧ PP W W.heap.size p l ∧ ∀ x ∈ l, ∀ y ∈ x.vals, y.fit := by
  obtain ⟨a, n, k, rfl⟩ := okWide_slice Tryz.underlying25 hv
  obtain ⟨p, c, l, h1, h2⟩ := open_parts h
  simp [Value.cells] at h1
  obtain ⟨rfl, rfl, rfl⟩ := h1
  exact ⟨_, _, l, rfl, h2⟩
end
end Go.Proofs.YtfehiclbcebnoaaGreat

namespace Go.Proofs.YtfehiclbcebnoaaGreat
open Go.RowKit Go.Proofs.Heap Go.Proofs.Sch

theorem parts_trueZ (v : Int) (pa : Option Addr) (ca : Nat) (cs : List Cmp) (q : Option Addr) (qc : Nat) (l : List Prt) (bytes : ByteArray) (w : World) (hA : CP w w.heap.size pa cs) (hqc : l.length ≤ qc) (hP : PP w w.heap.size q l) (hF : ∀ x ∈ l, ∀ y ∈ x.vals, y.fit) :
    Calls Tryz.prog 3 #[.agg #[.int .i64 v, .slice pa cs.length ca], .slice q l.length qc, .string bytes] w fun e w' => e = .returned (.bool true) ∧ Below w.heap.size w w' :=
  (sc_parts v cs pa ca l q qc bytes w hA hqc hP hF).mono fun _ _ h => ⟨h.1, h.2.below⟩
end Go.Proofs.YtfehiclbcebnoaaGreat
