/- What is proved: the walk of CraftExact: the program's answers are the reference's. -/
import Derived.Test.YtbnhdmalkmcalaaDoorMCrSame
import Derived.Test.YtbnhdmalkmcalaaDoorMCrBack
import Derived.Test.YtbnhdmalkmcalaaDoorMRf22Dec
import Derived.Test.YtbnhdmalkmcalaaDoorMRf22Wd
import Derived.Test.YtbnhdmalkmcalaaDoorRows
import Derived.LaidSub
import Derived.Lib.LaidTab
import Derived.Stop.Joined
import Derived.LaidMore
namespace Go.Proofs.YtbnhdmalkmcalaaDoor
open Go.RowKit Go.Proofs.Heap Go.Proofs.Sch

theorem lines_few {s : VSys} (h : s.code.length ≤ 80) : (linesY s).length ≤ 65536 := by
  unfold linesY
  split
  · simp; omega
  · simp
theorem decY_no {s : ByteArray} (h : goodY s = false) : decY s = zeroY ∧ decE s = 4 := by
  unfold decY decE; rw [h]; exact ⟨rfl, rfl⟩
theorem decE_yes {s : ByteArray} (h : goodY s = true) : decE s = 0 := by unfold decE; rw [h]; rfl
theorem decY_mem {s : ByteArray} (h : goodY s = true) : MemY (decY s) := by rw [(good_enc_of h).1]; exact mem_parts h

theorem texts_same (l : List ByteArray) (p q : Option Addr) (c d : Nat) (w : World) (hl : l.length ≤ 65536) (hx : TP w w.heap.size p l) (hy : TP w w.heap.size q l) :
    Calls Tryd.prog 16 #[.slice p l.length c, .slice q l.length d] w fun r w' => r = .returned (.bool true) ∧ Keep (fun _ => False) w w' := by
  have h := cr_texts l l p q c d w hl hx hy
  rwa [show decide (l = l) = true from decide_eq_true rfl] at h

set_option maxRecDepth 20000 in
set_option maxHeartbeats 32000000 in
theorem craft_exact (a : VSys) (pa : Option Addr) (ca : Nat) (pc : Option Addr) (cc : Nat) (bytes : ByteArray) (w : World) (hA : SysIn w a pa ca pc) (hbs : bytes.size ≤ 9223372036854775807)
    (htab : Lib.TabIs Tryd.prog w "internal/strconv.uint64pow10" .u64 Lib.pow10Tab) :
    Calls Tryd.prog 3 #[SysV a pa ca pc cc, .string bytes] w fun r w' => r = .returned (.bool true) ∧ Keep (fun _ => False) w w' := by
  have HTAB := hid (fun wy hk => craft_awake wy (tab_keep htab hk))
  obtain ⟨w1, hw1, hb1, hs1, hk1⟩ := box1 w (SysC a pa ca pc cc) 27
  have HK1 := hid hk1; have HA1 := hid hb1
  have HIA := hid (fun wy (hk : Keep (fun _ => False) w wy) => hA.keep hk)
  have HDC := hid (fun wy => craft_decode bytes wy hbs)
  have HLA := hid (fun wy (hk : Keep (fun _ => False) w wy) => craft_lines a pa ca pc cc wy hA.all hA.none hA.cap (hA.keep hk).aft (hA.keep hk).code (fun x hx => ⟨hA.k x hx, (it_all x.k (hA.k x hx).1 (hA.k x hx).2 w htab).keep hk⟩))
  have HCK := hid (fun wy (hk : Keep (fun _ => False) w wy) => craft_check a pa ca pc cc wy hA.all hA.none hA.cap (hA.keep hk).aft (hA.keep hk).code)
  have HCE := hid (fun wy (hk : Keep (fun _ => False) w wy) => craft_encode a pa ca pc cc wy hA.all hA.none hA.cap (hA.keep hk).aft (hA.keep hk).code)
  clear hb1 hs1 hk1 htab hA hbs
  go_enter Tryd.func3, Tryd.ntmps3
  go_upto_region 1 with fail
  rw [← hw1]
  clear hw1
  generalize w.heap.size = aB at *
  go_wp2_with fail
  refine (HTAB.out w1 HK1.out).mono ?_
  rintro r w2 ⟨rfl, hk⟩
  have HA2 := hid (hk.get HA1.out id); have HK2 := hid (HK1.out.trans hk)
  clear hk HTAB
  have a0 := cell_of HA2.out (i := 0) (by rfl)
  have a1 := cell_of HA2.out (i := 1) (by rfl)
  have a2 := cell_of HA2.out (i := 2) (by rfl)
  have a3 := cell_of HA2.out (i := 3) (by rfl)
  have a4 := cell_of HA2.out (i := 4) (by rfl)
  have a5 := cell_of HA2.out (i := 5) (by rfl)
  go_wp2_with fail
  refine (cr_great a pa ca pc cc w2 (HIA.out w2 HK2.out).aft).mono ?_
  rintro r w3 ⟨rfl, hk⟩
  have HA3 := hid (hk.get HA2.out id); have HK3 := hid (HK2.out.trans hk)
  clear hk
  clear a0 a1 a2 a3 a4 a5
  have a0 := cell_of HA3.out (i := 0) (by rfl)
  have a1 := cell_of HA3.out (i := 1) (by rfl)
  have a2 := cell_of HA3.out (i := 2) (by rfl)
  have a3 := cell_of HA3.out (i := 3) (by rfl)
  have a4 := cell_of HA3.out (i := 4) (by rfl)
  have a5 := cell_of HA3.out (i := 5) (by rfl)
  cases ga : greatY a
  rotate_left
  · go_wp2
    go_ret
    exact ⟨rfl, HK3.out⟩
  obtain ⟨_, hal, hcl, _⟩ := greatY_no ga
  have HAL := hid hal; have HCL := hid hcl
  clear ga hal hcl
  by_cases hl : 2048 < bytes.size
  · have g1 : decide ((2048 : Int) < (bytes.size : Int)) = true := decide_eq_true (by omega)
    have g2 : decide (2048 < bytes.size) = true := decide_eq_true hl
    go_wp2
    go_ret
    exact ⟨rfl, HK3.out⟩
  have g1 : decide ((2048 : Int) < (bytes.size : Int)) = false := decide_eq_false (by omega)
  have g2 : decide (2048 < bytes.size) = false := decide_eq_false hl
  have HBL : Hid (bytes.size ≤ 2048) := hid (by omega)
  clear hl
  have HFM := hid (cr_form a pa ca pc cc w3 (by have := HCL.out; omega) (HIA.out w3 HK3.out).code)
  go_wp2_with fail
  clear g1 g2
  refine HFM.out.mono ?_
  rintro r w4 ⟨oa, oc, rfl, hv, _, hk⟩
  have HA4 := hid (hk.get HA3.out id); have HK4 := hid (HK3.out.trans hk)
  have HVF := hid (fun wy (hk : Keep (fun _ => False) w4 wy) => VP.mono (VP.low hv (Low.keep0 hk)) hk.size)
  clear hk hv HFM
  clear a0 a1 a2 a3 a4 a5
  obtain ⟨w5, hw5, hb5, hs5, hk5⟩ := box1 w4 (SysC a pa ca oa oc) 32
  have HA5 := hid (hk5.get HA4.out id); have HK5 := hid (HK4.out.trans hk5)
  have HF5 := hid hb5; have HJ5 := hid hk5
  clear hb5 hs5 hk5
  have HRC := hid (fun wy (hk : Keep (fun _ => False) w wy) (hj : Keep (fun _ => False) w4 wy) => r_check22 a pa ca oa oc wy (HIA.out wy hk).all (HIA.out wy hk).none (HIA.out wy hk).aft (HVF.out wy hj))
  have HRL := hid (fun wy (hk : Keep (fun _ => False) w wy) (hj : Keep (fun _ => False) w4 wy) => r_lines22 a pa ca oa oc wy (HIA.out wy hk).all (HIA.out wy hk).none (HIA.out wy hk).aft (HVF.out wy hj) (HIA.out wy hk).k)
  have HRE := hid (fun (hok : OkY a) wy (hk : Keep (fun _ => False) w wy) (hj : Keep (fun _ => False) w4 wy) => r_encode22 a pa ca oa oc wy ((HIA.out wy hk).mem hok) (HIA.out wy hk).aft (HVF.out wy hj))
  go_upto_region 6 with fail
  rw [← hw5]
  clear hw5
  generalize w4.heap.size = fB at *
  have f0 := cell_of HF5.out (i := 0) (by rfl)
  have f1 := cell_of HF5.out (i := 1) (by rfl)
  have f2 := cell_of HF5.out (i := 2) (by rfl)
  have f3 := cell_of HF5.out (i := 3) (by rfl)
  have f4 := cell_of HF5.out (i := 4) (by rfl)
  have f5 := cell_of HF5.out (i := 5) (by rfl)
  go_wp2_with fail
  refine (HRC.out w5 HK5.out HJ5.out).mono ?_
  rintro r w6 ⟨rfl, hk⟩
  have HA6 := hid (hk.get HA5.out id); have HK6 := hid (HK5.out.trans hk)
  have HF6 := hid (hk.get HF5.out id); have HJ6 := hid (HJ5.out.trans hk)
  clear hk HRC
  clear f0 f1 f2 f3 f4 f5
  have a0 := cell_of HA6.out (i := 0) (by rfl)
  have a1 := cell_of HA6.out (i := 1) (by rfl)
  have a2 := cell_of HA6.out (i := 2) (by rfl)
  have a3 := cell_of HA6.out (i := 3) (by rfl)
  have a4 := cell_of HA6.out (i := 4) (by rfl)
  have a5 := cell_of HA6.out (i := 5) (by rfl)
  go_wp2_with fail
  refine (HCE.out w6 HK6.out).mono ?_
  rintro r w7 ⟨rfl, hk⟩
  have HA7 := hid (hk.get HA6.out id); have HK7 := hid (HK6.out.trans hk)
  have HF7 := hid (hk.get HF6.out id); have HJ7 := hid (HJ6.out.trans hk)
  clear hk HCE
  clear a0 a1 a2 a3 a4 a5
  have HTX := hid (fun wy (p q : Option Addr) (c d : Nat) (hx : TP wy wy.heap.size p (linesY a)) (hy : TP wy wy.heap.size q (linesY a)) => texts_same (linesY a) p q c d wy (lines_few HCL.out) hx hy)
  go_upto_region 8 with fail
  have HA8 : Hid (w7.drew.heap[aB]? = some (.cells (SysC a pa ca pc cc) 27 (0, 0))) := HA7
  have HF8 : Hid (w7.drew.heap[fB]? = some (.cells (SysC a pa ca oa oc) 32 (0, 0))) := HF7
  have HK8 := hid HK7.out.drew
  have HJ8 := hid HJ7.out.drew
  by_cases hz : sysC a = 0
  · have HOK := hid (sys_oky hz)
    have heb : encS a = bsB (encL a) := if_pos hz
    rw [hz] at HCK
    rw [heb, hz]
    clear heb hz
    generalize bsB (encL a) = eb at *
    have hse : (!eb.toList == eb.toList) = false := by simp
    refine Plan.wp_region_pl [(false, 0, []), (false, 2, []), (true, 1, [2]), (false, 3, []), (false, 4, []), (false, 5, []), (false, 6, []), (false, 7, []), (false, 8, []), (false, 9, []), (false, 10, []), (false, 11, []), (false, 12, []), (false, 13, []), (false, 14, []), (true, 15, [13]), (false, 16, []), (false, 17, []), (false, 18, []), (false, 19, []), (false, 20, []), (false, 21, []), (false, 22, []), (false, 23, []), (false, 24, []), (false, 25, []), (false, 26, []), (false, 27, []), (false, 28, []), (false, 30, []), (true, 29, [30]), (true, 31, []), (true, 32, []), (false, 33, []), (false, 34, [])] (by as_aux_lemma => kernel_rfl) (by as_aux_lemma => kernel_rfl) ?_
    generalize w7.drew = w8 at *
    refine Plan.pl_st rfl ?_
    refine Plan.wpQuiet_load_g rfl 27 _ rfl _ rfl _ (load_sys HA8.out) ?_
    simp only [Act.put, List.setIfInBounds_toArray, List.set_cons_succ, List.set_cons_zero]
    refine wpQuiet_nil ?_
    iterate 1 (refine Plan.pl_st rfl ?_; go_big_quiet_step (fail); refine wpQuiet_nil ?_)
    refine Plan.pl_ac rfl ?_
    go_wp2_with fail
    refine (HCK.out w8 HK8.out).mono ?_
    rintro r w9 ⟨rfl, hk⟩
    have HA9 := hid (hk.get HA8.out id); have HK9 := hid (HK8.out.trans hk)
    have HF9 := hid (hk.get HF8.out id); have HJ9 := hid (HJ8.out.trans hk)
    clear hk
    go_wp2
    refine Plan.plQ_mk ?_ ?_
    · iterate 1 (refine Plan.chk_st rfl ?_ ?_; focus (go_big_quiet_step (fail); exact wpQuiet_nil rfl))
      exact Plan.chk_end
    iterate 11 (refine Plan.pl_st rfl ?_; go_big_quiet_step (fail); refine wpQuiet_nil ?_)
    refine Plan.pl_st rfl ?_
    refine Plan.wpQuiet_load_g rfl 32 _ rfl _ rfl _ (load_sysR HF9.out) ?_
    simp only [Act.put, List.setIfInBounds_toArray, List.set_cons_succ, List.set_cons_zero]
    refine wpQuiet_nil ?_
    refine Plan.pl_ac rfl ?_
    go_wp2_with fail
    refine (HRE.out HOK.out w9 HK9.out HJ9.out).mono ?_
    rintro r w10 ⟨rfl, hk⟩
    have HA10 := hid (hk.get HA9.out id); have HK10 := hid (HK9.out.trans hk)
    have HF10 := hid (hk.get HF9.out id); have HJ10 := hid (HJ9.out.trans hk)
    clear hk
    go_wp2
    refine Plan.plQ_mk ?_ ?_
    · iterate 1 (refine Plan.chk_st rfl ?_ ?_; focus (go_big_quiet_step (fail); exact wpQuiet_nil rfl))
      exact Plan.chk_end
    iterate 12 (refine Plan.pl_st rfl ?_; go_big_quiet_step (fail); refine wpQuiet_nil ?_)
    refine Plan.pl_st rfl ?_
    refine Plan.wpQuiet_load_g rfl 27 _ rfl _ rfl _ (load_sys HA10.out) ?_
    simp only [Act.put, List.setIfInBounds_toArray, List.set_cons_succ, List.set_cons_zero]
    refine wpQuiet_nil ?_
    refine Plan.pl_st rfl ?_
    refine Plan.wpQuiet_load_g rfl 32 _ rfl _ rfl _ (load_sysR HF10.out) ?_
    simp only [Act.put, List.setIfInBounds_toArray, List.set_cons_succ, List.set_cons_zero]
    refine wpQuiet_nil ?_
    refine Plan.pl_ac rfl ?_
    go_wp2_with fail
    refine (HLA.out w10 HK10.out).mono ?_
    rintro r w11 ⟨la, lc, rfl, lo, hk⟩
    have HA11 := hid (hk.get HA10.out id); have HK11 := hid (HK10.out.trans hk)
    have HF11 := hid (hk.get HF10.out id); have HJ11 := hid (HJ10.out.trans hk)
    have HLO := hid (tp_own lo)
    clear lo
    clear hk
    go_wp2
    refine Plan.plQ_mk ?_ ?_
    · refine Plan.chk_st rfl ?_ ?_
      focus (refine Plan.wpQuiet_load_g rfl 32 _ rfl _ rfl _ (load_sysR HF11.out) ?_; exact wpQuiet_nil rfl)
      exact Plan.chk_end
    refine Plan.pl_ac rfl ?_
    go_wp2_with fail
    refine (HRL.out w11 HK11.out HJ11.out).mono ?_
    rintro r w12 ⟨ra, rc, rfl, ro, hk⟩
    have HA12 := hid (hk.get HA11.out id); have HK12 := hid (HK11.out.trans hk)
    have HF12 := hid (hk.get HF11.out id); have HJ12 := hid (HJ11.out.trans hk)
    have HRO := hid (tp_own ro)
    have HLP := hid (TP.mono (TP.low HLO.out (Low.keep0 hk)) hk.size)
    clear ro
    clear hk
    go_wp2
    refine Plan.plQ_mk Plan.chk_end ?_
    refine Plan.pl_ac rfl ?_
    go_wp2_with fail
    refine (HTX.out w12 la ra lc rc HLP.out HRO.out).mono ?_
    rintro r w13 ⟨rfl, hk⟩
    have HA13 := hid (hk.get HA12.out id); have HK13 := hid (HK12.out.trans hk)
    have HF13 := hid (hk.get HF12.out id); have HJ13 := hid (HJ12.out.trans hk)
    clear hk
    go_wp2
    refine Plan.plQ_mk Plan.chk_end ?_
    iterate 2 (refine Plan.pl_st rfl ?_; go_big_quiet_step (fail); refine wpQuiet_nil ?_)
    refine Plan.pl_end ?_
    clear hse
    generalize linesY a = LN at *
    clear HTX HLA HCK HRL HRE
    go_wp2_with fail
    refine (HDC.out w13).mono ?_
    rintro r w14 ⟨pa5, ca5, pc5, cc5, rfl, _, hta5, hvc5, hk⟩
    have HK14 := hid (HK13.out.trans hk)
    obtain ⟨w15, hw15, hb15, hs15, hk15⟩ := box1 w14 (SysC (decY bytes) pa5 ca5 pc5 cc5) 27
    have HX15 := hid hb15
    have HK15 := hid (HK14.out.trans hk15)
    have HTP := hid (fun wy (hk : Keep (fun _ => False) w14 wy) => TP.mono (TP.low hta5 (Low.keep0 hk)) hk.size)
    have HVP := hid (fun wy (hk : Keep (fun _ => False) w14 wy) => VP.mono (VP.low hvc5 (Low.keep0 hk)) hk.size)
    have HM15 := hid hk15
    clear hb15 hs15 hk15 hta5 hvc5 hk HDC
    go_upto_region 11 with fail
    rw [← hw15]
    clear hw15
    generalize w14.heap.size = xB at *
    go_wp2_with fail
    refine (r_decode22 bytes w15 HBL.out).mono ?_
    rintro r w16 ⟨y, pa6, ca6, pc6, cc6, rfl, hgy, hta6, hvc6, hk⟩
    have HX16 := hid (hk.get HX15.out id); have HK16 := hid (HK15.out.trans hk); have HM16 := hid (HM15.out.trans hk)
    obtain ⟨w17, hw17, hb17, hs17, hk17⟩ := box1 w16 (SysC y pa6 ca6 pc6 cc6) 32
    have HY17 := hid hb17
    have HX17 := hid (hk17.get HX16.out id); have HK17 := hid (HK16.out.trans hk17); have HM17 := hid (HM16.out.trans hk17)
    have HTQ := hid (fun wy (hk : Keep (fun _ => False) w16 wy) => TP.mono (TP.low hta6 (Low.keep0 hk)) hk.size)
    have HVQ := hid (fun wy (hk : Keep (fun _ => False) w16 wy) => VP.mono (VP.low hvc6 (Low.keep0 hk)) hk.size)
    have HN17 := hid hk17
    have HGY := hid hgy
    clear hb17 hs17 hk17 hta6 hvc6 hk hgy
    go_upto_region 12 with fail
    rw [← hw17]
    clear hw17
    generalize w16.heap.size = yB at *
    cases hg : goodY bytes
    · obtain ⟨e1, e2⟩ := decY_no hg
      have HSM := hid (fun wy (hk : Keep (fun _ => False) w14 wy) (oa : Option Addr) (oc : Nat) (hv : VP wy wy.heap.size oa (decY bytes).code) => cr_same (decY bytes) zeroY pa5 ca5 oa oc none 0 none 0 wy (by rw [e1]; decide) (by rw [e1]; decide) (HTP.out wy hk) hv (.inl rfl) (.inl rfl))
      rw [show eqY (decY bytes) zeroY = true by rw [e1]; exact (eqY_iff _ _).2 rfl] at HSM
      have HFB := hid (cr_form (decY bytes) pa5 ca5 pc5 cc5 w17 (by rw [e1]; decide) (HVP.out w17 HM17.out))
      rw [e2]
      clear e1 e2 hg HGY
      generalize decY bytes = dy at *
      have x0 := cell_of HX17.out (i := 0) (by rfl)
      have x1 := cell_of HX17.out (i := 1) (by rfl)
      have x2 := cell_of HX17.out (i := 2) (by rfl)
      have x3 := cell_of HX17.out (i := 3) (by rfl)
      have x4 := cell_of HX17.out (i := 4) (by rfl)
      have x5 := cell_of HX17.out (i := 5) (by rfl)
      go_wp2_with fail
      refine HFB.out.mono ?_
      rintro r w18 ⟨ob, od, rfl, hv, _, hk⟩
      have HSN := hid (HSM.out w18 (HM17.out.trans hk) ob od hv)
      have HK18 := hid (HK17.out.trans hk)
      clear hk hv HFB HSM
      go_wp2_with fail
      refine HSN.out.mono ?_
      rintro r w19 ⟨rfl, hk⟩
      have HK19 := hid (HK18.out.trans hk)
      clear hk HSN
      go_wp2
      go_ret
      exact ⟨rfl, HK19.out⟩
    · obtain rfl := HGY.out hg
      have hM := decY_mem hg
      have hcd := hM.ok.cdl
      have haf := hM.ok.afl
      rw [decE_yes hg]
      have HSM := hid (fun wy (hk : Keep (fun _ => False) w14 wy) (hj : Keep (fun _ => False) w16 wy) (oa : Option Addr) (oc : Nat) (hv : VP wy wy.heap.size oa (decY bytes).code) => cr_same (decY bytes) (decY bytes) pa5 ca5 oa oc pa6 ca6 pc6 cc6 wy (by omega) (by omega) (HTP.out wy hk) hv (HTQ.out wy hj) (HVQ.out wy hj))
      rw [(eqY_iff (decY bytes) (decY bytes)).2 rfl] at HSM
      have HFB := hid (fun wy (hk : Keep (fun _ => False) w14 wy) => cr_form (decY bytes) pa5 ca5 pc5 cc5 wy (by omega) (HVP.out wy hk))
      clear hM hcd haf hg HGY
      generalize decY bytes = dy at *
      go_upto_region 14 with fail
      have HX18 : Hid (w17.drew.heap[xB]? = some (.cells (SysC dy pa5 ca5 pc5 cc5) 27 (0, 0))) := HX17
      have HY18 : Hid (w17.drew.heap[yB]? = some (.cells (SysC dy pa6 ca6 pc6 cc6) 32 (0, 0))) := HY17
      have HK18 := hid HK17.out.drew
      have HM18 := hid HM17.out.drew
      have HN18 := hid HN17.out.drew
      refine Plan.wp_region_pl [(false, 0, []), (false, 1, []), (false, 2, []), (false, 3, []), (false, 5, []), (true, 4, [5]), (true, 6, []), (false, 7, []), (false, 8, [])] (by as_aux_lemma => kernel_rfl) (by as_aux_lemma => kernel_rfl) ?_
      generalize w17.drew = w18 at *
      iterate 3 (refine Plan.pl_st rfl ?_; go_big_quiet_step (fail); refine wpQuiet_nil ?_)
      refine Plan.pl_st rfl ?_
      refine Plan.wpQuiet_load_g rfl 27 _ rfl _ rfl _ (load_sys HX18.out) ?_
      simp only [Act.put, List.setIfInBounds_toArray, List.set_cons_succ, List.set_cons_zero]
      refine wpQuiet_nil ?_
      refine Plan.pl_st rfl ?_
      refine Plan.wpQuiet_load_g rfl 32 _ rfl _ rfl _ (load_sysR HY18.out) ?_
      simp only [Act.put, List.setIfInBounds_toArray, List.set_cons_succ, List.set_cons_zero]
      refine wpQuiet_nil ?_
      refine Plan.pl_ac rfl ?_
      go_wp2_with fail
      refine (HFB.out w18 HM18.out).mono ?_
      rintro r w19 ⟨ob, od, rfl, hv, _, hk⟩
      have HY19 := hid (hk.get HY18.out id)
      have HSN := hid (HSM.out w19 (HM18.out.trans hk) (HN18.out.trans hk) ob od hv)
      have HK19 := hid (HK18.out.trans hk)
      clear hk hv HFB HSM
      go_wp2
      refine Plan.plQ_mk ?_ ?_
      · refine Plan.chk_st rfl ?_ ?_
        focus (refine Plan.wpQuiet_load_g rfl 32 _ rfl _ rfl _ (load_sysR HY19.out) ?_; exact wpQuiet_nil rfl)
        exact Plan.chk_end
      refine Plan.pl_ac rfl ?_
      go_wp2_with fail
      refine HSN.out.mono ?_
      rintro r w20 ⟨rfl, hk⟩
      have HK20 := hid (HK19.out.trans hk)
      clear hk HSN
      go_wp2
      refine Plan.plQ_mk Plan.chk_end ?_
      iterate 2 (refine Plan.pl_st rfl ?_; go_big_quiet_step (fail); refine wpQuiet_nil ?_)
      refine Plan.pl_end ?_
      go_wp2
      go_ret
      exact ⟨rfl, HK20.out⟩
  · have he : encS a = ⟨#[]⟩ := if_neg hz
    rw [he]
    clear he
    obtain ⟨C, hC⟩ : ∃ C, sysC a = C := ⟨_, rfl⟩
    rw [hC] at hz HCK ⊢
    have g1 : ((C : Int) != 0) = true := by rw [bne_iff_ne]; omega
    have g2 : (C != 0) = true := by rw [bne_iff_ne]; exact hz
    have g3 : ((C : Int) == 0) = false := by rw [beq_eq_false_iff_ne]; omega
    have g4 : (C == 0) = false := by rw [beq_eq_false_iff_ne]; exact hz
    have g5 : ((C : Int) != (C : Int)) = false := by simp
    have g6 : (C != C) = false := by simp
    have hse : (!(⟨#[]⟩ : ByteArray).toList == (⟨#[]⟩ : ByteArray).toList) = false := by simp
    clear hC hz
    refine Plan.wp_region_pl [(false, 0, []), (false, 2, []), (true, 1, [2]), (false, 3, []), (false, 4, []), (false, 5, []), (false, 6, []), (false, 7, []), (false, 8, []), (false, 9, []), (false, 10, []), (false, 11, []), (false, 12, []), (false, 13, []), (false, 14, []), (true, 15, [13]), (false, 16, []), (false, 17, []), (false, 18, []), (false, 19, []), (false, 20, []), (false, 21, []), (false, 22, []), (false, 23, []), (false, 24, []), (false, 25, []), (false, 26, []), (false, 27, []), (false, 28, []), (false, 30, []), (true, 29, [30]), (true, 31, []), (true, 32, []), (false, 33, []), (false, 34, [])] (by as_aux_lemma => kernel_rfl) (by as_aux_lemma => kernel_rfl) ?_
    generalize w7.drew = w8 at *
    refine Plan.pl_st rfl ?_
    refine Plan.wpQuiet_load_g rfl 27 _ rfl _ rfl _ (load_sys HA8.out) ?_
    simp only [Act.put, List.setIfInBounds_toArray, List.set_cons_succ, List.set_cons_zero]
    refine wpQuiet_nil ?_
    iterate 1 (refine Plan.pl_st rfl ?_; go_big_quiet_step (fail); refine wpQuiet_nil ?_)
    refine Plan.pl_ac rfl ?_
    go_wp2_with fail
    refine (HCK.out w8 HK8.out).mono ?_
    rintro r w9 ⟨rfl, hk⟩
    have HA9 := hid (hk.get HA8.out id); have HK9 := hid (HK8.out.trans hk)
    have HF9 := hid (hk.get HF8.out id); have HJ9 := hid (HJ8.out.trans hk)
    clear hk
    go_wp2
    refine Plan.plQ_mk ?_ ?_
    · iterate 1 (refine Plan.chk_st rfl ?_ ?_; focus (go_big_quiet_step (fail); exact wpQuiet_nil rfl))
      exact Plan.chk_end
    iterate 12 (refine Plan.pl_st rfl ?_; go_big_quiet_step (fail); refine wpQuiet_nil ?_)
    refine Plan.pl_ac rfl ?_
    go_wp2
    refine Plan.plQ_mk ?_ ?_
    · iterate 1 (refine Plan.chk_st rfl ?_ ?_; focus (go_big_quiet_step (fail); exact wpQuiet_nil rfl))
      exact Plan.chk_end
    iterate 12 (refine Plan.pl_st rfl ?_; go_big_quiet_step (fail); refine wpQuiet_nil ?_)
    refine Plan.pl_st rfl ?_
    refine Plan.wpQuiet_load_g rfl 27 _ rfl _ rfl _ (load_sys HA9.out) ?_
    simp only [Act.put, List.setIfInBounds_toArray, List.set_cons_succ, List.set_cons_zero]
    refine wpQuiet_nil ?_
    refine Plan.pl_st rfl ?_
    refine Plan.wpQuiet_load_g rfl 32 _ rfl _ rfl _ (load_sysR HF9.out) ?_
    simp only [Act.put, List.setIfInBounds_toArray, List.set_cons_succ, List.set_cons_zero]
    refine wpQuiet_nil ?_
    refine Plan.pl_ac rfl ?_
    go_wp2_with fail
    refine (HLA.out w9 HK9.out).mono ?_
    rintro r w11 ⟨la, lc, rfl, lo, hk⟩
    have HA11 := hid (hk.get HA9.out id); have HK11 := hid (HK9.out.trans hk)
    have HF11 := hid (hk.get HF9.out id); have HJ11 := hid (HJ9.out.trans hk)
    have HLO := hid (tp_own lo)
    clear lo
    clear hk
    go_wp2
    refine Plan.plQ_mk ?_ ?_
    · refine Plan.chk_st rfl ?_ ?_
      focus (refine Plan.wpQuiet_load_g rfl 32 _ rfl _ rfl _ (load_sysR HF11.out) ?_; exact wpQuiet_nil rfl)
      exact Plan.chk_end
    refine Plan.pl_ac rfl ?_
    go_wp2_with fail
    refine (HRL.out w11 HK11.out HJ11.out).mono ?_
    rintro r w12 ⟨ra, rc, rfl, ro, hk⟩
    have HA12 := hid (hk.get HA11.out id); have HK12 := hid (HK11.out.trans hk)
    have HF12 := hid (hk.get HF11.out id); have HJ12 := hid (HJ11.out.trans hk)
    have HRO := hid (tp_own ro)
    have HLP := hid (TP.mono (TP.low HLO.out (Low.keep0 hk)) hk.size)
    clear ro
    clear hk
    go_wp2
    refine Plan.plQ_mk Plan.chk_end ?_
    refine Plan.pl_ac rfl ?_
    go_wp2_with fail
    refine (HTX.out w12 la ra lc rc HLP.out HRO.out).mono ?_
    rintro r w13 ⟨rfl, hk⟩
    have HA13 := hid (hk.get HA12.out id); have HK13 := hid (HK12.out.trans hk)
    have HF13 := hid (hk.get HF12.out id); have HJ13 := hid (HJ12.out.trans hk)
    clear hk
    go_wp2
    refine Plan.plQ_mk Plan.chk_end ?_
    iterate 2 (refine Plan.pl_st rfl ?_; go_big_quiet_step (fail); refine wpQuiet_nil ?_)
    refine Plan.pl_end ?_
    clear hse g1 g2 g3 g4 g5 g6
    generalize linesY a = LN at *
    clear HTX HLA HCK HRL HRE
    go_wp2_with fail
    refine (HDC.out w13).mono ?_
    rintro r w14 ⟨pa5, ca5, pc5, cc5, rfl, _, hta5, hvc5, hk⟩
    have HK14 := hid (HK13.out.trans hk)
    obtain ⟨w15, hw15, hb15, hs15, hk15⟩ := box1 w14 (SysC (decY bytes) pa5 ca5 pc5 cc5) 27
    have HX15 := hid hb15
    have HK15 := hid (HK14.out.trans hk15)
    have HTP := hid (fun wy (hk : Keep (fun _ => False) w14 wy) => TP.mono (TP.low hta5 (Low.keep0 hk)) hk.size)
    have HVP := hid (fun wy (hk : Keep (fun _ => False) w14 wy) => VP.mono (VP.low hvc5 (Low.keep0 hk)) hk.size)
    have HM15 := hid hk15
    clear hb15 hs15 hk15 hta5 hvc5 hk HDC
    go_upto_region 11 with fail
    rw [← hw15]
    clear hw15
    generalize w14.heap.size = xB at *
    go_wp2_with fail
    refine (r_decode22 bytes w15 HBL.out).mono ?_
    rintro r w16 ⟨y, pa6, ca6, pc6, cc6, rfl, hgy, hta6, hvc6, hk⟩
    have HX16 := hid (hk.get HX15.out id); have HK16 := hid (HK15.out.trans hk); have HM16 := hid (HM15.out.trans hk)
    obtain ⟨w17, hw17, hb17, hs17, hk17⟩ := box1 w16 (SysC y pa6 ca6 pc6 cc6) 32
    have HY17 := hid hb17
    have HX17 := hid (hk17.get HX16.out id); have HK17 := hid (HK16.out.trans hk17); have HM17 := hid (HM16.out.trans hk17)
    have HTQ := hid (fun wy (hk : Keep (fun _ => False) w16 wy) => TP.mono (TP.low hta6 (Low.keep0 hk)) hk.size)
    have HVQ := hid (fun wy (hk : Keep (fun _ => False) w16 wy) => VP.mono (VP.low hvc6 (Low.keep0 hk)) hk.size)
    have HN17 := hid hk17
    have HGY := hid hgy
    clear hb17 hs17 hk17 hta6 hvc6 hk hgy
    go_upto_region 12 with fail
    rw [← hw17]
    clear hw17
    generalize w16.heap.size = yB at *
    cases hg : goodY bytes
    · obtain ⟨e1, e2⟩ := decY_no hg
      have HSM := hid (fun wy (hk : Keep (fun _ => False) w14 wy) (oa : Option Addr) (oc : Nat) (hv : VP wy wy.heap.size oa (decY bytes).code) => cr_same (decY bytes) zeroY pa5 ca5 oa oc none 0 none 0 wy (by rw [e1]; decide) (by rw [e1]; decide) (HTP.out wy hk) hv (.inl rfl) (.inl rfl))
      rw [show eqY (decY bytes) zeroY = true by rw [e1]; exact (eqY_iff _ _).2 rfl] at HSM
      have HFB := hid (cr_form (decY bytes) pa5 ca5 pc5 cc5 w17 (by rw [e1]; decide) (HVP.out w17 HM17.out))
      rw [e2]
      clear e1 e2 hg HGY
      generalize decY bytes = dy at *
      have x0 := cell_of HX17.out (i := 0) (by rfl)
      have x1 := cell_of HX17.out (i := 1) (by rfl)
      have x2 := cell_of HX17.out (i := 2) (by rfl)
      have x3 := cell_of HX17.out (i := 3) (by rfl)
      have x4 := cell_of HX17.out (i := 4) (by rfl)
      have x5 := cell_of HX17.out (i := 5) (by rfl)
      go_wp2_with fail
      refine HFB.out.mono ?_
      rintro r w18 ⟨ob, od, rfl, hv, _, hk⟩
      have HSN := hid (HSM.out w18 (HM17.out.trans hk) ob od hv)
      have HK18 := hid (HK17.out.trans hk)
      clear hk hv HFB HSM
      go_wp2_with fail
      refine HSN.out.mono ?_
      rintro r w19 ⟨rfl, hk⟩
      have HK19 := hid (HK18.out.trans hk)
      clear hk HSN
      go_wp2
      go_ret
      exact ⟨rfl, HK19.out⟩
    · obtain rfl := HGY.out hg
      have hM := decY_mem hg
      have hcd := hM.ok.cdl
      have haf := hM.ok.afl
      rw [decE_yes hg]
      have HSM := hid (fun wy (hk : Keep (fun _ => False) w14 wy) (hj : Keep (fun _ => False) w16 wy) (oa : Option Addr) (oc : Nat) (hv : VP wy wy.heap.size oa (decY bytes).code) => cr_same (decY bytes) (decY bytes) pa5 ca5 oa oc pa6 ca6 pc6 cc6 wy (by omega) (by omega) (HTP.out wy hk) hv (HTQ.out wy hj) (HVQ.out wy hj))
      rw [(eqY_iff (decY bytes) (decY bytes)).2 rfl] at HSM
      have HFB := hid (fun wy (hk : Keep (fun _ => False) w14 wy) => cr_form (decY bytes) pa5 ca5 pc5 cc5 wy (by omega) (HVP.out wy hk))
      clear hM hcd haf hg HGY
      generalize decY bytes = dy at *
      go_upto_region 14 with fail
      have HX18 : Hid (w17.drew.heap[xB]? = some (.cells (SysC dy pa5 ca5 pc5 cc5) 27 (0, 0))) := HX17
      have HY18 : Hid (w17.drew.heap[yB]? = some (.cells (SysC dy pa6 ca6 pc6 cc6) 32 (0, 0))) := HY17
      have HK18 := hid HK17.out.drew
      have HM18 := hid HM17.out.drew
      have HN18 := hid HN17.out.drew
      refine Plan.wp_region_pl [(false, 0, []), (false, 1, []), (false, 2, []), (false, 3, []), (false, 5, []), (true, 4, [5]), (true, 6, []), (false, 7, []), (false, 8, [])] (by as_aux_lemma => kernel_rfl) (by as_aux_lemma => kernel_rfl) ?_
      generalize w17.drew = w18 at *
      iterate 3 (refine Plan.pl_st rfl ?_; go_big_quiet_step (fail); refine wpQuiet_nil ?_)
      refine Plan.pl_st rfl ?_
      refine Plan.wpQuiet_load_g rfl 27 _ rfl _ rfl _ (load_sys HX18.out) ?_
      simp only [Act.put, List.setIfInBounds_toArray, List.set_cons_succ, List.set_cons_zero]
      refine wpQuiet_nil ?_
      refine Plan.pl_st rfl ?_
      refine Plan.wpQuiet_load_g rfl 32 _ rfl _ rfl _ (load_sysR HY18.out) ?_
      simp only [Act.put, List.setIfInBounds_toArray, List.set_cons_succ, List.set_cons_zero]
      refine wpQuiet_nil ?_
      refine Plan.pl_ac rfl ?_
      go_wp2_with fail
      refine (HFB.out w18 HM18.out).mono ?_
      rintro r w19 ⟨ob, od, rfl, hv, _, hk⟩
      have HY19 := hid (hk.get HY18.out id)
      have HSN := hid (HSM.out w19 (HM18.out.trans hk) (HN18.out.trans hk) ob od hv)
      have HK19 := hid (HK18.out.trans hk)
      clear hk hv HFB HSM
      go_wp2
      refine Plan.plQ_mk ?_ ?_
      · refine Plan.chk_st rfl ?_ ?_
        focus (refine Plan.wpQuiet_load_g rfl 32 _ rfl _ rfl _ (load_sysR HY19.out) ?_; exact wpQuiet_nil rfl)
        exact Plan.chk_end
      refine Plan.pl_ac rfl ?_
      go_wp2_with fail
      refine HSN.out.mono ?_
      rintro r w20 ⟨rfl, hk⟩
      have HK20 := hid (HK19.out.trans hk)
      clear hk HSN
      go_wp2
      refine Plan.plQ_mk Plan.chk_end ?_
      iterate 2 (refine Plan.pl_st rfl ?_; go_big_quiet_step (fail); refine wpQuiet_nil ?_)
      refine Plan.pl_end ?_
      go_wp2
      go_ret
      exact ⟨rfl, HK20.out⟩
end Go.Proofs.YtbnhdmalkmcalaaDoor

namespace Go.Proofs.YtbnhdmalkmcalaaDoor
open Go.RowKit Go.Proofs.Heap Go.Proofs.Sch

theorem tab_of_exact {W : World} (h : laidMetH Tryd.prog Rows.craftExactRow.laid W) : Lib.TabIs Tryd.prog W "internal/strconv.uint64pow10" .u64 Lib.pow10Tab := by
  have h1 := laidMetH.filter (fun x => x.1 == "internal/strconv.uint64pow10") h
  have h2 : laidMetH Tryd.prog [("internal/strconv.uint64pow10", Lib.tabData .u64 Lib.pow10Tab)] W := h1
  rw [MakeChecks.laidMetH_plain _ _ _ (by kernel_rfl)] at h2
  exact Lib.tabIs_of_head (g := 3) (by kernel_rfl) (by kernel_rfl) Tryd.underlying192 Tryd.underlying63 (by kernel_rfl) (by kernel_rfl) h2
theorem exact_true22 (a : VSys) (pa : Option Addr) (ca : Nat) (pc : Option Addr) (cc : Nat) (bytes : ByteArray) (w : World) (hA : SysIn w a pa ca pc) (hbs : bytes.size ≤ maxLen)
    (htab : Lib.TabIs Tryd.prog w "internal/strconv.uint64pow10" .u64 Lib.pow10Tab) :
    Calls Tryd.prog 3 #[SysV a pa ca pc cc, .string bytes] w fun e w' => e = .returned (.bool true) ∧ Below w.heap.size w w' :=
  (craft_exact a pa ca pc cc bytes w hA (by unfold maxLen at hbs; omega) htab).mono fun _ _ h => ⟨h.1, h.2.below⟩
end Go.Proofs.YtbnhdmalkmcalaaDoor
