/- What is proved: expr.Eval in full: what a formula comes to. -/
import Derived.Test.YtlhdofkgcbmnnaaGreatMExLaw2
import Derived.Test.YtlhdofkgcbmnnaaGreatMEvSplit
import Derived.Test.YtlhdofkgcbmnnaaGreatMSchAt
import Derived.Test.YtlhdofkgcbmnnaaGreatMPlain
import Derived.Laws.EntriesVeiled
import Derived.Test.YtlhdofkgcbmnnaaGreatMWide2
namespace Go.Proofs.YtlhdofkgcbmnnaaGreat
open Go.RowKit Go.Proofs.Heap Go.Proofs.Sch Go.Proofs.Wide Go.Proofs.IMap

theorem runW_next {fs : List (List WI)} {pl : Int} {code : List Ins} {k : Nat} {x : Ins} (h : code[k]? = some x) (st : List WI) : runW fs pl st (code.drop k) = if (insW fs pl x (st.drop (st.length - argsN x.op))).2 = 0 then runW fs pl (st.take (st.length - argsN x.op) ++ [(insW fs pl x (st.drop (st.length - argsN x.op))).1]) (code.drop (k + 1)) else ([], (insW fs pl x (st.drop (st.length - argsN x.op))).2) := by
  rw [drop_next h, runW_cons]
theorem flat_take (st : List WI) (m : Nat) : (st.flatMap wcl).take (m * 3) = (st.take m).flatMap wcl := by
  induction st generalizing m with
  | nil => simp
  | cons x r ih =>
    cases m with
    | zero => simp
    | succ m =>
      rw [List.flatMap_cons, List.take_succ_cons, List.flatMap_cons, ← ih m, show (m + 1) * 3 = (wcl x).length + m * 3 by rw [wcl_len]; omega, List.take_length_add_append]

theorem fun_ne (fn : Fn) (first cap : Array Value) (w : World) : (binOp .neq 186 (.func fn first cap) .nilFunc).run Tryz.prog w = .ok (.bool true) w := by kernel_rfl
theorem fun_nil (w : World) : (binOp .neq 186 .nilFunc .nilFunc).run Tryz.prog w = .ok (.bool false) w := by kernel_rfl

set_option maxRecDepth 20000 in
set_option maxHeartbeats 16000000 in
theorem expr_eval (code : List Ins) (p : Option Addr) (cap : Nat) (fs : List (List WI)) (q : Option Addr) (qc : Nat) (pl : Int) (w : World) (hfit : ∀ x ∈ code, x.k.fit) (hfs : FitF fs) (hpl : pl < 9223372036854775808) (hf : IP w w.heap.size p code) (hq : YP w w.heap.size q fs) :
    Calls Tryz.prog 71 #[.slice p code.length cap, EnvV q fs.length qc pl] w fun r w' => r = .returned (.tuple #[WV (evalW fs pl code).1, iV (evalW fs pl code).2]) ∧ Keep (fun _ => False) w w' := by
  obtain ⟨i0, hi0, hz0, hz1, hz2⟩ := info_parts' info_wi
  obtain ⟨R, hR⟩ : ∃ R, evalW fs pl code = R := ⟨_, rfl⟩
  have HRE := hid hR
  rw [hR]
  obtain ⟨w1, hw1, hb1, hb2, hs1, hk1⟩ := box2 w #[.slice q fs.length qc, .int .i64 pl] Z3 97 86
  have HK1 := hid hk1; have HR1 := hid hb2; have HE1 := hid hb1
  have HX := hid hfit; have HFS := hid hfs; have HPL := hid hpl
  have HF := hid (fun (wy : World) (hk : Keep (fun _ => False) w wy) => IP.mono (IP.low hf (Low.keep0 hk)) hk.size)
  have HY := hid (fun (wy : World) (hk : Keep (fun _ => False) w wy) => YP.mono (YP.low hq (Low.keep0 hk)) hk.size)
  clear hb1 hb2 hs1 hk1 hf hq hfit hfs hpl hR
  go_enter Tryz.func71, Tryz.ntmps71
  go_upto_region 1 with fail
  rw [← hw1]
  clear hw1
  obtain ⟨sr, hsr⟩ : ∃ sr, w.heap.size + 1 = sr := ⟨_, rfl⟩
  obtain ⟨eb, heb⟩ : ∃ eb, w.heap.size = eb := ⟨_, rfl⟩
  have HSR : Hid (w.heap.size ≤ sr ∧ w.heap.size ≤ eb ∧ eb ≠ sr) := hid (by omega)
  rw [hsr] at HR1 ⊢
  rw [heb] at HE1 ⊢
  clear hsr heb
  go_wp2_with fail
  refine (expr_check code p cap w1 HX.out (HF.out _ HK1.out)).mono ?_
  rintro r w2 ⟨rfl, hk⟩
  have HK2 := hid (HK1.out.trans hk); have HR2 := hid (hk.get HR1.out id); have HE2 := hid (hk.get HE1.out id)
  clear hk
  by_cases hz : exprC code = 0
  rotate_left
  · as_aux_lemma =>
    have G : Hid (R = (zW, exprC code)) := hid (by rw [← HRE.out]; exact if_pos hz)
    generalize exprC code = e at *
    have g1 : ((e : Int) != 0) = true := by simp only [bne, beq_eq_false_iff_ne.2 (show (e : Int) ≠ 0 by omega)]; rfl
    have g2 : (e != 0) = true := by simp only [bne, beq_eq_false_iff_ne.2 hz]; rfl
    have f0 := free_of HR2.out 0
    have f1 := free_of HR2.out 1
    have f2 := free_of HR2.out 2
    have c0 := cell_of HR2.out (i := 0) (by rfl)
    have c1 := cell_of HR2.out (i := 1) (by rfl)
    have c2 := cell_of HR2.out (i := 2) (by rfl)
    go_wp2
    (try simp only [Exit.inBlock, Exit.then])
    refine bodyPost_ret (results_ct rfl _ rfl (run_loadVar_row _ sr _ 86 _ _ _ (cells3 (.bool false) (.int .u64 0) (.int .u64 0) HR2.out) Tryz.underlying86 rfl (by kernel_rfl))) rfl ?_
    exact ⟨by rw [G.out]; rfl, ((HK2.out.setCell_new (p := ⟨sr, 0, none⟩) (by show _ ≤ sr; have := HSR.out; omega) _).setCell_new (p := ⟨sr, 1, none⟩) (by show _ ≤ sr; have := HSR.out; omega) _).setCell_new (p := ⟨sr, 2, none⟩) (by show _ ≤ sr; have := HSR.out; omega) _⟩
  have HCK := hid (exprC_run hz)
  have HER : Hid ((if (runW fs pl [] code).2 ≠ 0 then (zW, (runW fs pl [] code).2) else if ((runW fs pl [] code).1.getD 0 zW).form = true then ((runW fs pl [] code).1.getD 0 zW, 0) else (zW, 4)) = R) := hid (by
    rw [← HRE.out]; exact (if_neg (by rw [hz]; simp)).symm)
  obtain ⟨U, hU⟩ : ∃ U, runW fs pl [] code = U := ⟨_, rfl⟩
  have HU := hid hU
  rw [hU] at HER
  rw [hz]
  clear hz HRE hU
  go_wp2_with fail
  refine (expr_rows _).mono ?_
  rintro r w3 ⟨mb, rfl, hrt, hk⟩
  have HK3 := hid (HK2.out.trans hk); have HR3 := hid (hk.get HR2.out id); have HE3 := hid (hk.get HE2.out id)
  have HRT := hid hrt
  clear hk hrt
  go_wp2_with fail
  go_loopw [8, 10, 11, 12, 13, 14, 24] (fun v _ _ _ _ _ i wr => ∃ (k : Nat) (st : List WI), k ≤ code.length ∧ i = iV k ∧ wr.ownsRow w3.heap.size 86 3 v st.length (st.flatMap wcl) ∧ FitL st ∧ st.length ≤ 16 ∧ exprRun st.length (code.drop k) = 0 ∧ runW fs pl st (code.drop k) = U ∧ Keep (fun _ => False) w3 wr) (fun _ _ _ _ _ _ i _ => code.length + 1 - (intOf i).toNat)
  case atStart => exact ⟨0, [], by omega, rfl, World.ownsRow_nil _ _ _ _, by intro x hx; simp at hx, by simp, HCK.out.2, HU.out, Keep.refl _ _⟩
  case round =>
    obtain ⟨k, st, hk, rfl, how, hfl, h16, her, hru, hkr⟩ := hrel
    obtain ⟨vp, vc, rfl⟩ := owns_val how
    have HO := hid how; have HFL := hid hfl; have HRN := hid her; have HRU := hid hru; have HKR := hid hkr; have H16 := hid h16
    have HKA := hid (HK3.out.trans hkr)
    clear how hfl her hru hkr
    have hcl : code.length ≤ 64 := HCK.out.1
    have hcl2 : (code.length : Int) ≤ 64 := by omega
    by_cases hlt : k < code.length
    · obtain ⟨x, hxk⟩ : ∃ x, code[k]? = some x := ⟨code[k], by simp [hlt]⟩
      have HNX := hid (runW_next (fs := fs) (pl := pl) hxk st)
      have HST := hid (exprRun_step (show exprRun st.length (x :: code.drop (k + 1)) = 0 by rw [← drop_next hxk]; exact HRN.out))
      have HXF := hid (HX.out x (List.mem_of_getElem? hxk))
      have HOP := hid (insB_op HST.out.1)
      obtain ⟨b, off, rfl, hb, c0, c1, c2, c3, c4, c5⟩ := IP.at (HF.out _ HKA.out) hxk
      have hin : (0 : Int) ≤ (k : Int) ∧ (k : Int) < (code.length : Int) := ⟨by omega, by omega⟩
      clear hxk hb
      obtain ⟨op, xa, xb, ⟨kn, kh, kl⟩⟩ := x
      simp only at c0 c1 c2 c3 c4 c5 HNX HST HXF HOP
      obtain ⟨w5, hw5, hb5, hs5, hk5⟩ := box1 wr #[.int .i64 op, .int .i64 xa, .int .i64 xb, .bool kn, .int .u64 (kh : Int), .int .u64 (kl : Int)] 88
      have HXB := hid hb5; have HK5 := hid (HKR.out.trans hk5)
      have HO5 : Hid (w5.ownsRow w3.heap.size 86 3 (.slice vp st.length vc) st.length (st.flatMap wcl)) := hid (by rw [hw5]; exact HO.out.alloc _)
      have HRX := hid (HRT.out _ HK5.out op HOP.out.1 HOP.out.2)
      clear hb5 hs5 hk5
      go_upto_region 9 with fail
      rw [← hw5]
      clear hw5 c0 c1 c2 c3 c4 c5
      generalize wr.heap.size = xbk at *
      obtain ⟨dv, hlk, hd0, hd1⟩ := HRX.out
      have HD0 := hid hd0; have HD1 := hid hd1
      have s0 : w5.cell? ⟨xbk, 0, none⟩ = some (.int .i64 op) := cell_of HXB.out (by rfl)
      clear hd0 hd1
      obtain ⟨w6, hw6, hb6, hs6, hk6⟩ := box1 w5 #[.string (wordX op), dv] 188
      have HDB := hid hb6; have HK6 := hid (HK5.out.trans hk6); have HX6 := hid (hk6.get HXB.out id)
      have HO6 : Hid (w6.ownsRow w3.heap.size 86 3 (.slice vp st.length vc) st.length (st.flatMap wcl)) := hid (by rw [hw6]; exact HO5.out.alloc _)
      have HDX := hid (fun lo (h : DoF w5 lo dv op) => h.keep (hk6.mono (fun _ _ h => h.elim)))
      clear hb6 hs6 hk6
      obtain ⟨m, hm⟩ : ∃ m, st.length - argsN op = m := ⟨_, rfl⟩
      rw [hm] at HNX
      have hml : m ≤ st.length := by omega
      have hm1 : (st.length : Int) - (argsN op : Int) = (m : Int) := by have := HST.out.2.1; omega
      have hm2 : wrap64 ((st.length : Int) - (argsN op : Int)) = (m : Int) := by have := H16.out; unfold wrap64; omega
      have HM := hid hm
      clear hm
      obtain ⟨Y, ye, hY⟩ : ∃ Y ye, insW fs pl ⟨op, xa, xb, ⟨kn, kh, kl⟩⟩ (st.drop m) = (Y, ye) := ⟨_, _, rfl⟩
      have HYE := hid hY
      have HYF : Hid (Y.fit) := hid (by have h := congrArg Prod.fst hY; rw [← show _ = Y from h]; exact insW_fit HFS.out HPL.out HXF.out (fun z hz => HFL.out z (List.mem_of_mem_drop hz)))
      rw [hY, HRU.out] at HNX
      clear hY HRU
      by_cases ha : argsN op = 0
      · as_aux_lemma =>
        obtain rfl := HD0.out ha
        obtain rfl : m = st.length := by have := HM.out; omega
        clear HD0 HD1 HDX
        go_upto_region 10 with fail
        rw [← hw6]
        clear hw6 hlk s0
        have HDL : Hid (w5.heap.size < w6.heap.size) := hid (lt_of_heap HDB.out)
        generalize w5.heap.size = dbk at *
        have s0 : w6.cell? ⟨xbk, 0, none⟩ = some (.int .i64 op) := cell_of HX6.out (by rfl)
        have s1 : w6.cell? ⟨xbk, 1, none⟩ = some (.int .i64 xa) := cell_of HX6.out (by rfl)
        have s2 : w6.cell? ⟨xbk, 2, none⟩ = some (.int .i64 xb) := cell_of HX6.out (by rfl)
        have s3 : w6.cell? ⟨xbk, 3, none⟩ = some (.bool kn) := cell_of HX6.out (by rfl)
        have s4 : w6.cell? ⟨xbk, 4, none⟩ = some (.int .u64 (kh : Int)) := cell_of HX6.out (by rfl)
        have s5 : w6.cell? ⟨xbk, 5, none⟩ = some (.int .u64 (kl : Int)) := cell_of HX6.out (by rfl)
        go_wp2_with fail
        refine (args_of ⟨op, xa, xb, ⟨kn, kh, kl⟩⟩ _).mono ?_
        rintro r w7 ⟨rfl, hk7⟩
        have HK7 := hid (HK6.out.trans hk7); have HX7 := hid (hk7.get HX6.out id); have HD7 := hid (hk7.get HDB.out id)
        have HO7 := hid (owns_keep HO6.out (fun j hj => hk7.block j (HO6.out.lt j hj).2 id))
        clear hk7 s0 s1 s2 s3 s4 s5
        obtain ⟨w8, hw8, hb8, hs8, hk8⟩ := box1 w7 Z3 86
        have HT8 := hid hb8; have HK8 := hid (HK7.out.trans hk8); have HX8 := hid (hk8.get HX7.out id); have HD8 := hid (hk8.get HD7.out id)
        have HO8 : Hid (w8.ownsRow w3.heap.size 86 3 (.slice vp st.length vc) st.length (st.flatMap wcl)) := hid (by rw [hw8]; exact HO7.out.alloc _)
        have HTB : Hid (w3.heap.size ≤ w7.heap.size ∧ ∀ j, (Value.slice vp st.length vc).ownBlock = some j → j ≠ w7.heap.size) := hid ⟨HK7.out.size, fun j hj e => by have := (HO7.out.lt j hj).2; omega⟩
        clear hb8 hs8 hk8
        go_upto_region 12 with fail
        rw [← hw8]
        clear hw8
        generalize w7.heap.size = tb at *
        have d1 : w8.cell? ⟨dbk, 1, none⟩ = some .nilFunc := cell_of HD8.out (by rfl)
        have hne := fun_nil w8
        have HE8 := hid (HK8.out.get HE3.out id)
        have e0 : w8.cell? ⟨eb, 0, none⟩ = some (.slice q fs.length qc) := cell_of HE8.out (by rfl)
        have e1 : w8.cell? ⟨eb, 1, none⟩ = some (.int .i64 pl) := cell_of HE8.out (by rfl)
        have s0 : w8.cell? ⟨xbk, 0, none⟩ = some (.int .i64 op) := cell_of HX8.out (by rfl)
        have s1 : w8.cell? ⟨xbk, 1, none⟩ = some (.int .i64 xa) := cell_of HX8.out (by rfl)
        have s2 : w8.cell? ⟨xbk, 2, none⟩ = some (.int .i64 xb) := cell_of HX8.out (by rfl)
        have s3 : w8.cell? ⟨xbk, 3, none⟩ = some (.bool kn) := cell_of HX8.out (by rfl)
        have s4 : w8.cell? ⟨xbk, 4, none⟩ = some (.int .u64 (kh : Int)) := cell_of HX8.out (by rfl)
        have s5 : w8.cell? ⟨xbk, 5, none⟩ = some (.int .u64 (kl : Int)) := cell_of HX8.out (by rfl)
        go_wp2_with fail
        have HLF : Hid (leafW fs pl ⟨op, xa, xb, ⟨kn, kh, kl⟩⟩ = (Y, ye)) := hid (by rw [← HYE.out]; unfold insW; rw [if_pos ha])
        refine (env_leaf fs q qc pl ⟨op, xa, xb, ⟨kn, kh, kl⟩⟩ w8 HPL.out (HY.out _ (HK3.out.trans HK8.out))).mono ?_
        rw [HLF.out]
        rintro r w9 ⟨rfl, hk9⟩
        have HK9 := hid (HK8.out.trans hk9); have HT9 := hid (hk9.get HT8.out id)
        have HO9 := hid (owns_keep HO8.out (fun j hj => hk9.block j (HO8.out.lt j hj).2 id))
        clear hk9 s0 s1 s2 s3 s4 s5 e0 e1 d1 hne
        have f0 := free_of HT9.out 0
        have f1 := free_of HT9.out 1
        have f2 := free_of HT9.out 2
        have c0 := cell_of HT9.out (i := 0) (by rfl)
        have c1 := cell_of HT9.out (i := 1) (by rfl)
        have c2 := cell_of HT9.out (i := 2) (by rfl)
        obtain ⟨wA, hwA⟩ : ∃ wA, (((w9.setCell ⟨tb, 0, none⟩ (.bool Y.neg)).setCell ⟨tb, 1, none⟩ (.int .u64 (Y.hi : Int))).setCell ⟨tb, 2, none⟩ (.int .u64 (Y.lo : Int))) = wA := ⟨_, rfl⟩
        have HTA : Hid (wA.heap[tb]? = some (.cells (WC Y) 86 (0, 0))) := hid (by rw [← hwA]; exact cells3 _ _ _ HT9.out)
        have HKA2 : Hid (Keep (fun _ => False) w3 wA) := hid (by
          rw [← hwA]
          exact ((HK9.out.setCell_new (p := ⟨tb, 0, none⟩) HTB.out.1 _).setCell_new (p := ⟨tb, 1, none⟩) HTB.out.1 _).setCell_new (p := ⟨tb, 2, none⟩) HTB.out.1 _)
        have HOA : Hid (wA.ownsRow w3.heap.size 86 3 (.slice vp st.length vc) st.length (st.flatMap wcl)) := hid (by
          refine owns_keep HO9.out (fun j hj => ?_)
          have hne := HTB.out.2 j hj
          rw [← hwA, hsc_ne _ hne, hsc_ne _ hne, hsc_ne _ hne])
        go_upto_region 15 with fail
        (try rw [hwA])
        clear hwA c0 c1 c2 f0 f1 f2 HT9 HK9 HO9
        have HRA := hid (HKA2.out.get HR3.out id)
        by_cases hy : ye = 0
        rotate_left
        · have G : Hid (R = (zW, ye)) := hid (by
            have h := HNX.out
            rw [if_neg (by simpa using hy)] at h
            rw [← HER.out, h, if_pos (by simpa using hy)])
          have g1 : ((ye : Int) != 0) = true := by simp only [bne, beq_eq_false_iff_ne.2 (show (ye : Int) ≠ 0 by omega)]; rfl
          have g2 : (ye != 0) = true := by simp only [bne, beq_eq_false_iff_ne.2 hy]; rfl
          have f0 := free_of HRA.out 0
          have f1 := free_of HRA.out 1
          have f2 := free_of HRA.out 2
          have c0 := cell_of HRA.out (i := 0) (by rfl)
          have c1 := cell_of HRA.out (i := 1) (by rfl)
          have c2 := cell_of HRA.out (i := 2) (by rfl)
          have HKF := hid (HK3.out.trans HKA2.out)
          clear HNX
          go_wp2
          (try simp only [Exit.inBlock, Exit.then])
          refine bodyPost_ret (results_ct rfl _ rfl (run_loadVar_row _ sr _ 86 _ _ _ (cells3 (.bool false) (.int .u64 0) (.int .u64 0) HRA.out) Tryz.underlying86 rfl (by kernel_rfl))) rfl ?_
          exact ⟨by rw [G.out]; rfl, ((HKF.out.setCell_new (p := ⟨sr, 0, none⟩) (by show _ ≤ sr; have := HSR.out; omega) _).setCell_new (p := ⟨sr, 1, none⟩) (by show _ ≤ sr; have := HSR.out; omega) _).setCell_new (p := ⟨sr, 2, none⟩) (by show _ ≤ sr; have := HSR.out; omega) _⟩
        · subst hy
          have HNU := hid (HNX.out.trans (if_pos rfl))
          clear HNX
          have hmc : (st.length : Int) ≤ (vc : Int) := by have := owns_cap HOA.out; omega
          have hmcN : st.length ≤ vc := by omega
          have hm0 : (0 : Int) ≤ (st.length : Int) := by omega
          have HOT := hid (owns_takeN HOA.out hml)
          rw [flat_take] at HOT
          go_upto_region 17 with fail
          have HKD := hid HKA2.out.drew; have HTD : Hid (wA.drew.heap[tb]? = _) := hid HTA.out
          have HOD := hid (owns_keep (w' := wA.drew) HOT.out (fun _ _ => rfl))
          refine Plan.wp_region_pl [(false, 0, []), (false, 1, []), (false, 2, []), (false, 3, []), (true, 4, [2, 1, 0]), (true, 5, []), (true, 6, [])] (by as_aux_lemma => kernel_rfl) (by as_aux_lemma => kernel_rfl) ?_
          generalize wA.drew = wd at *
          have t0 : wd.cell? ⟨tb, 0, none⟩ = some (.bool Y.neg) := cell_of HTD.out (by rfl)
          have t1 : wd.cell? ⟨tb, 1, none⟩ = some (.int .u64 (Y.hi : Int)) := cell_of HTD.out (by rfl)
          have t2 : wd.cell? ⟨tb, 2, none⟩ = some (.int .u64 (Y.lo : Int)) := cell_of HTD.out (by rfl)
          iterate 4 (refine Plan.pl_st rfl ?_; go_big_quiet_step (fail); refine wpQuiet_nil ?_)
          obtain ⟨wb, hwb, hbb, hsb, hkb⟩ := box1 wd (WC Y) 86
          have HBB := hid hbb; have HKB := hid (HKD.out.trans hkb)
          have HOB := hid (owns_keep HOD.out (fun j hj => hkb.block j (HOD.out.lt j hj).2 id))
          clear hbb hsb hkb t0 t1 t2
          refine Plan.pl_ac rfl ?_
          go_wp2
          rw [← hwb]
          clear hwb
          refine Plan.plQ_mk ?_ ?_
          · iterate 3 (refine Plan.chk_st rfl ?_ ?_; focus (go_big_quiet_step (fail); exact wpQuiet_nil rfl))
            exact Plan.chk_end
          generalize wd.heap.size = bb at *
          refine Plan.pl_ac rfl ?_
          refine wpList_append_rd rfl _ _ _ rfl w3.heap.size _ i0 _ 3 24 Tryz.underlying28 hi0 hz0 hz1 hz2 rfl (by decide) _ st.length _ (by rfl) HOB.out _ 1 (wcl Y) (by rfl) (rd_block (cs := wcl Y) HBB.out (by rfl) (by simp [wcl, Value.oneCell'])) (by unfold maxLen; have := H16.out; omega) (by have := H16.out; omega) HKB.out.size ?_
          intro v' wz hown hgrow hat hn5
          obtain ⟨vq, vd, rfl⟩ := owns_val hown
          have HOZ := hid hown
          have HKZ := hid (Keep.grown HKB.out hgrow (fun k hk => .inl (HOB.out.lt k hk).1))
          clear hown hgrow hat hn5
          go_wp2
          refine Plan.plQ_mk Plan.chk_end ?_
          refine Plan.pl_ac rfl ?_
          go_wp2
          refine Plan.plQ_mk Plan.chk_end ?_
          refine Plan.pl_end ?_
          have hll : (st.take st.length ++ [Y]).length = st.length + 1 := by rw [List.length_append, List.length_take, Nat.min_eq_left hml]; rfl
          have HLL := hid hll
          clear hll
          go_wp2
          go_roundw
          case rel =>
            refine ⟨k + 1, st.take st.length ++ [Y], by omega, by go_num, ?_, ?_, ?_, ?_, ?_, HKZ.out⟩
            · rw [HLL.out, List.flatMap_append]
              have h := HOZ.out
              simpa using h
            · intro z hz
              rcases List.mem_append.1 hz with h | h
              · exact HFL.out z (List.mem_of_mem_take h)
              · rw [List.mem_singleton.1 h]; exact HYF.out
            · rw [HLL.out]; have := HST.out.2.2.1; have := HM.out; omega
            · rw [HLL.out, ← HM.out]; exact HST.out.2.2.2
            · exact HNU.out.symm
          case measure => simp [intOf]; omega
      · as_aux_lemma =>
        obtain ⟨lo, hdo⟩ := HD1.out ha
        have hdx := HDX.out lo hdo
        clear HD0 HD1 HDX hdo
        obtain ⟨F, first, cap2, rfl, hou, hdo⟩ := hdx
        have HOU := hid hou; have HDO := hid hdo
        clear hou hdo
        go_upto_region 10 with fail
        rw [← hw6]
        clear hw6 hlk s0
        have HDL : Hid (w5.heap.size < w6.heap.size) := hid (lt_of_heap HDB.out)
        generalize w5.heap.size = dbk at *
        have s0 : w6.cell? ⟨xbk, 0, none⟩ = some (.int .i64 op) := cell_of HX6.out (by rfl)
        have s1 : w6.cell? ⟨xbk, 1, none⟩ = some (.int .i64 xa) := cell_of HX6.out (by rfl)
        have s2 : w6.cell? ⟨xbk, 2, none⟩ = some (.int .i64 xb) := cell_of HX6.out (by rfl)
        have s3 : w6.cell? ⟨xbk, 3, none⟩ = some (.bool kn) := cell_of HX6.out (by rfl)
        have s4 : w6.cell? ⟨xbk, 4, none⟩ = some (.int .u64 (kh : Int)) := cell_of HX6.out (by rfl)
        have s5 : w6.cell? ⟨xbk, 5, none⟩ = some (.int .u64 (kl : Int)) := cell_of HX6.out (by rfl)
        go_wp2_with fail
        refine (args_of ⟨op, xa, xb, ⟨kn, kh, kl⟩⟩ _).mono ?_
        rintro r w7 ⟨rfl, hk7⟩
        have HK7 := hid (HK6.out.trans hk7); have HX7 := hid (hk7.get HX6.out id); have HD7 := hid (hk7.get HDB.out id)
        have HO7 := hid (owns_keep HO6.out (fun j hj => hk7.block j (HO6.out.lt j hj).2 id))
        have HDO := hid (fun l p c wy h1 h2 h3 h4 (h5 : Keep (fun _ => False) w7 wy) => HDO.out l p c wy h1 h2 h3 h4 ((hk7.trans h5).mono (fun _ _ h => h.elim)))
        clear hk7 s0 s1 s2 s3 s4 s5
        obtain ⟨w8, hw8, hb8, hs8, hk8⟩ := box1 w7 Z3 86
        have HT8 := hid hb8; have HK8 := hid (HK7.out.trans hk8); have HX8 := hid (hk8.get HX7.out id); have HD8 := hid (hk8.get HD7.out id)
        have HO8 : Hid (w8.ownsRow w3.heap.size 86 3 (.slice vp st.length vc) st.length (st.flatMap wcl)) := hid (by rw [hw8]; exact HO7.out.alloc _)
        have HDO := hid (fun l p c wy h1 h2 h3 h4 (h5 : Keep (fun _ => False) w8 wy) => HDO.out l p c wy h1 h2 h3 h4 (hk8.trans h5))
        have HTB : Hid (w3.heap.size ≤ w7.heap.size ∧ ∀ j, (Value.slice vp st.length vc).ownBlock = some j → j ≠ w7.heap.size) := hid ⟨HK7.out.size, fun j hj e => by have := (HO7.out.lt j hj).2; omega⟩
        clear hb8 hs8 hk8
        go_upto_region 12 with fail
        rw [← hw8]
        clear hw8
        generalize w7.heap.size = tb at *
        have d1 : w8.cell? ⟨dbk, 1, none⟩ = some (.func (.func F) first cap2) := cell_of HD8.out (by rfl)
        have hne := fun_ne (.func F) first cap2 w8
        go_upto_region 13 with fail
        have hn3 : m + argsN op = st.length := by have := HST.out.2.1; have := HM.out; omega
        obtain ⟨g, rfl⟩ := owns_some HO8.out (by omega)
        have HXP := hid ((xp_own rfl HO8.out).drop m)
        rw [Nat.zero_add] at HXP
        have hdl : (st.drop m).length = argsN op := by rw [List.length_drop]; omega
        have HDL2 := hid hdl
        have HCAP := hid (owns_cap HO8.out)
        have HDO := hid (fun wy (h5 : Keep (fun _ => False) w8 wy) => HDO.out (st.drop m) (some ⟨g, m * 3, none⟩) (vc - m) wy hdl (by have := HCAP.out; omega) (fun z hz => HFL.out z (List.mem_of_mem_drop hz)) (XP.mono (XP.low HXP.out (Low.keep0 h5)) h5.size) h5)
        have HOW : Hid (opW op ((st.drop m).getD 0 zW) ((st.drop m).getD 1 zW) ((st.drop m).getD 2 zW) = (Y, ye)) := hid (by rw [← HYE.out]; unfold insW; rw [if_neg ha])
        rw [HOW.out, List.length_drop, show first ++ #[Value.slice (some ⟨g, m * 3, none⟩) (st.length - m) (vc - m)] ++ cap2 = first.push (Value.slice (some ⟨g, m * 3, none⟩) (st.length - m) (vc - m)) ++ cap2 by rw [Array.append_singleton]] at HDO
        have HKD8 := hid HK8.out.drew
        have HD8d : Hid (w8.drew.heap[dbk]? = _) := hid HD8.out; have HT8d : Hid (w8.drew.heap[tb]? = _) := hid HT8.out
        have HO8d := hid (owns_keep (w' := w8.drew) HO8.out (fun _ _ => rfl))
        have HDOd := hid (fun wy (h5 : Keep (fun _ => False) w8.drew wy) => HDO.out wy ((Keep.refl (fun _ => False) w8).drew.trans h5))
        refine Plan.wp_region_pl [(false, 0, []), (false, 1, []), (false, 2, []), (false, 3, []), (false, 4, []), (true, 5, []), (false, 6, []), (false, 7, []), (false, 8, []), (true, 9, [8]), (false, 10, [])] (by as_aux_lemma => kernel_rfl) (by as_aux_lemma => kernel_rfl) ?_
        clear d1 hne hdl
        generalize w8.drew = w8d at *
        have d1 : w8d.cell? ⟨dbk, 1, none⟩ = some (.func (.func F) first cap2) := cell_of HD8d.out (by rfl)
        have hmn : (m : Int) ≤ (st.length : Int) := by omega
        have hnc : (st.length : Int) ≤ (vc : Int) := by have := HCAP.out; omega
        have hm0 : (0 : Int) ≤ (m : Int) := by omega
        iterate 5 (refine Plan.pl_st rfl ?_; go_big_quiet_step (fail); refine wpQuiet_nil ?_)
        refine Plan.pl_ac rfl ?_
        go_wp2_with fail
        rw [HOU.out, Oper.upon_enter]
        refine (HDOd.out _ (Keep.refl _ _)).mono ?_
        rintro r w9 ⟨rfl, hk9⟩
        have HK9 := hid (HKD8.out.trans hk9); have HT9 := hid (hk9.get HT8d.out id)
        have HO9 := hid (owns_keep HO8d.out (fun j hj => hk9.block j (HO8d.out.lt j hj).2 id))
        clear hk9 d1
        go_wp2
        refine Plan.plQ_mk Plan.chk_end ?_
        iterate 3 (refine Plan.pl_st rfl ?_; go_big_quiet_step (fail); refine wpQuiet_nil ?_)
        have f0 := free_of HT9.out 0
        have f1 := free_of HT9.out 1
        have f2 := free_of HT9.out 2
        have c0 := cell_of HT9.out (i := 0) (by rfl)
        have c1 := cell_of HT9.out (i := 1) (by rfl)
        have c2 := cell_of HT9.out (i := 2) (by rfl)
        refine Plan.pl_ac rfl ?_
        go_wp2
        refine Plan.plQ_mk ?_ ?_
        · iterate 1 (refine Plan.chk_st rfl ?_ ?_; focus (go_big_quiet_step (fail); exact wpQuiet_nil rfl))
          exact Plan.chk_end
        iterate 1 (refine Plan.pl_st rfl ?_; go_big_quiet_step (fail); refine wpQuiet_nil ?_)
        refine Plan.pl_end ?_
        obtain ⟨wA, hwA⟩ : ∃ wA, (((w9.setCell ⟨tb, 0, none⟩ (.bool Y.neg)).setCell ⟨tb, 1, none⟩ (.int .u64 (Y.hi : Int))).setCell ⟨tb, 2, none⟩ (.int .u64 (Y.lo : Int))) = wA := ⟨_, rfl⟩
        have HTA : Hid (wA.heap[tb]? = some (.cells (WC Y) 86 (0, 0))) := hid (by rw [← hwA]; exact cells3 _ _ _ HT9.out)
        have HKA2 : Hid (Keep (fun _ => False) w3 wA) := hid (by
          rw [← hwA]
          exact ((HK9.out.setCell_new (p := ⟨tb, 0, none⟩) HTB.out.1 _).setCell_new (p := ⟨tb, 1, none⟩) HTB.out.1 _).setCell_new (p := ⟨tb, 2, none⟩) HTB.out.1 _)
        have HOA : Hid (wA.ownsRow w3.heap.size 86 3 (.slice (some ⟨g, 0, none⟩) st.length vc) st.length (st.flatMap wcl)) := hid (by
          refine owns_keep HO9.out (fun j hj => ?_)
          have hne := HTB.out.2 j hj
          rw [← hwA, hsc_ne _ hne, hsc_ne _ hne, hsc_ne _ hne])
        go_upto_region 15 with fail
        (try rw [hwA])
        clear hwA c0 c1 c2 f0 f1 f2 HT9 HK9 HO9
        have HRA := hid (HKA2.out.get HR3.out id)
        by_cases hy : ye = 0
        rotate_left
        · have G : Hid (R = (zW, ye)) := hid (by
            have h := HNX.out
            rw [if_neg (by simpa using hy)] at h
            rw [← HER.out, h, if_pos (by simpa using hy)])
          have g1 : ((ye : Int) != 0) = true := by simp only [bne, beq_eq_false_iff_ne.2 (show (ye : Int) ≠ 0 by omega)]; rfl
          have g2 : (ye != 0) = true := by simp only [bne, beq_eq_false_iff_ne.2 hy]; rfl
          have f0 := free_of HRA.out 0
          have f1 := free_of HRA.out 1
          have f2 := free_of HRA.out 2
          have c0 := cell_of HRA.out (i := 0) (by rfl)
          have c1 := cell_of HRA.out (i := 1) (by rfl)
          have c2 := cell_of HRA.out (i := 2) (by rfl)
          have HKF := hid (HK3.out.trans HKA2.out)
          clear HNX
          go_wp2
          (try simp only [Exit.inBlock, Exit.then])
          refine bodyPost_ret (results_ct rfl _ rfl (run_loadVar_row _ sr _ 86 _ _ _ (cells3 (.bool false) (.int .u64 0) (.int .u64 0) HRA.out) Tryz.underlying86 rfl (by kernel_rfl))) rfl ?_
          exact ⟨by rw [G.out]; rfl, ((HKF.out.setCell_new (p := ⟨sr, 0, none⟩) (by show _ ≤ sr; have := HSR.out; omega) _).setCell_new (p := ⟨sr, 1, none⟩) (by show _ ≤ sr; have := HSR.out; omega) _).setCell_new (p := ⟨sr, 2, none⟩) (by show _ ≤ sr; have := HSR.out; omega) _⟩
        · subst hy
          have HNU := hid (HNX.out.trans (if_pos rfl))
          clear HNX
          have hmc : (m : Int) ≤ (vc : Int) := by have := owns_cap HOA.out; omega
          have hmcN : m ≤ vc := by omega
          have hm0 : (0 : Int) ≤ (m : Int) := by omega
          have HOT := hid (owns_takeN HOA.out hml)
          rw [flat_take] at HOT
          go_upto_region 17 with fail
          have HKD := hid HKA2.out.drew; have HTD : Hid (wA.drew.heap[tb]? = _) := hid HTA.out
          have HOD := hid (owns_keep (w' := wA.drew) HOT.out (fun _ _ => rfl))
          refine Plan.wp_region_pl [(false, 0, []), (false, 1, []), (false, 2, []), (false, 3, []), (true, 4, [2, 1, 0]), (true, 5, []), (true, 6, [])] (by as_aux_lemma => kernel_rfl) (by as_aux_lemma => kernel_rfl) ?_
          generalize wA.drew = wd at *
          have t0 : wd.cell? ⟨tb, 0, none⟩ = some (.bool Y.neg) := cell_of HTD.out (by rfl)
          have t1 : wd.cell? ⟨tb, 1, none⟩ = some (.int .u64 (Y.hi : Int)) := cell_of HTD.out (by rfl)
          have t2 : wd.cell? ⟨tb, 2, none⟩ = some (.int .u64 (Y.lo : Int)) := cell_of HTD.out (by rfl)
          iterate 4 (refine Plan.pl_st rfl ?_; go_big_quiet_step (fail); refine wpQuiet_nil ?_)
          obtain ⟨wb, hwb, hbb, hsb, hkb⟩ := box1 wd (WC Y) 86
          have HBB := hid hbb; have HKB := hid (HKD.out.trans hkb)
          have HOB := hid (owns_keep HOD.out (fun j hj => hkb.block j (HOD.out.lt j hj).2 id))
          clear hbb hsb hkb t0 t1 t2
          refine Plan.pl_ac rfl ?_
          go_wp2
          rw [← hwb]
          clear hwb
          refine Plan.plQ_mk ?_ ?_
          · iterate 3 (refine Plan.chk_st rfl ?_ ?_; focus (go_big_quiet_step (fail); exact wpQuiet_nil rfl))
            exact Plan.chk_end
          generalize wd.heap.size = bb at *
          refine Plan.pl_ac rfl ?_
          refine wpList_append_rd rfl _ _ _ rfl w3.heap.size _ i0 _ 3 24 Tryz.underlying28 hi0 hz0 hz1 hz2 rfl (by decide) _ m _ (by rfl) HOB.out _ 1 (wcl Y) (by rfl) (rd_block (cs := wcl Y) HBB.out (by rfl) (by simp [wcl, Value.oneCell'])) (by unfold maxLen; have := H16.out; omega) (by have := H16.out; omega) HKB.out.size ?_
          intro v' wz hown hgrow hat hn5
          obtain ⟨vq, vd, rfl⟩ := owns_val hown
          have HOZ := hid hown
          have HKZ := hid (Keep.grown HKB.out hgrow (fun k hk => .inl (HOB.out.lt k hk).1))
          clear hown hgrow hat hn5
          go_wp2
          refine Plan.plQ_mk Plan.chk_end ?_
          refine Plan.pl_ac rfl ?_
          go_wp2
          refine Plan.plQ_mk Plan.chk_end ?_
          refine Plan.pl_end ?_
          have hll : (st.take m ++ [Y]).length = m + 1 := by rw [List.length_append, List.length_take, Nat.min_eq_left hml]; rfl
          have HLL := hid hll
          clear hll
          go_wp2
          go_roundw
          case rel =>
            refine ⟨k + 1, st.take m ++ [Y], by omega, by go_num, ?_, ?_, ?_, ?_, ?_, HKZ.out⟩
            · rw [HLL.out, List.flatMap_append]
              have h := HOZ.out
              simpa using h
            · intro z hz
              rcases List.mem_append.1 hz with h | h
              · exact HFL.out z (List.mem_of_mem_take h)
              · rw [List.mem_singleton.1 h]; exact HYF.out
            · rw [HLL.out]; have := HST.out.2.2.1; have := HM.out; omega
            · rw [HLL.out, ← HM.out]; exact HST.out.2.2.2
            · exact HNU.out.symm
          case measure => simp [intOf]; omega
    · as_aux_lemma =>
      obtain rfl : k = code.length := by omega
      have hl1 : st.length = 1 := exprRun_end (by have := HRN.out; rwa [List.drop_length] at this)
      obtain ⟨y, rfl⟩ := List.length_eq_one_iff.1 hl1
      have HUE : Hid (U = ([y], 0)) := hid (by rw [← HRU.out, List.drop_length]; rfl)
      have HYF := hid (HFL.out y (by simp))
      have HRA := hid (HKR.out.get HR3.out id)
      have HXP := hid (xp_own (l := [y]) rfl HO.out)
      have g0 : decide ((code.length : Int) < (code.length : Int)) = false := decide_eq_false (by omega)
      obtain ⟨pb, po, rfl, hpb, a0, a1, a2⟩ := xp1 HXP.out
      have hpo : po = 0 := by
        rcases owns_block HO.out with ⟨e, _⟩ | ⟨g', c', cur, e, _⟩
        · cases e
        · injection e with e; injection e with e; injection e with e1 e2
      subst hpo
      clear hl1 hpb hlt
      go_wp2_with fail
      refine (w_form y HYF.out _).mono ?_
      rintro r w4 ⟨rfl, hk4⟩
      have HK4 := hid (HKA.out.trans hk4); have HR4 := hid (hk4.get HRA.out id)
      have HX4 := hid (XP.low HXP.out (Low.keep0 hk4))
      clear hk4 a0 a1 a2
      have f0 := free_of HR4.out 0
      have f1 := free_of HR4.out 1
      have f2 := free_of HR4.out 2
      have c0 := cell_of HR4.out (i := 0) (by rfl)
      have c1 := cell_of HR4.out (i := 1) (by rfl)
      have c2 := cell_of HR4.out (i := 2) (by rfl)
      cases hyf : y.form
      · have G : Hid (R = (zW, 4)) := hid (by
          rw [← HER.out, HUE.out]
          exact (if_neg (by simp)).trans (if_neg (by simp [hyf])))
        clear hyf
        go_wp2
        (try simp only [Exit.inBlock, Exit.then])
        refine bodyPost_ret (results_ct rfl _ rfl (run_loadVar_row _ sr _ 86 _ _ _ (cells3 (.bool false) (.int .u64 0) (.int .u64 0) HR4.out) Tryz.underlying86 rfl (by kernel_rfl))) rfl ?_
        exact ⟨by rw [G.out]; rfl, ((HK4.out.setCell_new (p := ⟨sr, 0, none⟩) (by show _ ≤ sr; have := HSR.out; omega) _).setCell_new (p := ⟨sr, 1, none⟩) (by show _ ≤ sr; have := HSR.out; omega) _).setCell_new (p := ⟨sr, 2, none⟩) (by show _ ≤ sr; have := HSR.out; omega) _⟩
      · have G : Hid (R = (y, 0)) := hid (by
          rw [← HER.out, HUE.out]
          exact (if_neg (by simp)).trans (if_pos (by simp [hyf])))
        obtain ⟨pb2, po2, he, _, a0, a1, a2⟩ := xp1 HX4.out
        injection he with he; injection he with he1 he2 _; subst he1 he2
        clear hyf
        go_wp2
        (try simp only [Exit.inBlock, Exit.then])
        refine bodyPost_ret (results_ct rfl _ rfl (run_loadVar_row _ sr _ 86 _ _ _ (cells3 (.bool y.neg) (.int .u64 (y.hi : Int)) (.int .u64 (y.lo : Int)) HR4.out) Tryz.underlying86 rfl (by kernel_rfl))) rfl ?_
        exact ⟨by rw [G.out]; rfl, ((HK4.out.setCell_new (p := ⟨sr, 0, none⟩) (by show _ ≤ sr; have := HSR.out; omega) _).setCell_new (p := ⟨sr, 1, none⟩) (by show _ ≤ sr; have := HSR.out; omega) _).setCell_new (p := ⟨sr, 2, none⟩) (by show _ ≤ sr; have := HSR.out; omega) _⟩
end Go.Proofs.YtlhdofkgcbmnnaaGreat

namespace Go.Proofs.YtlhdofkgcbmnnaaGreat
open Go.RowKit Go.Proofs.Heap Go.Proofs.Sch Go.Proofs.Wide

abbrev CoV (i : Int) (nm : ByteArray) (p : Option Addr) (n c : Nat) : Value := .agg #[.int .i64 i, .string nm, .slice p n c]
abbrev RvV (a b : Int) (p : Option Addr) (n c : Nat) : Value := .agg #[.int .i64 a, .int .i64 b, .slice p n c]
/-- Two components and a rule, each in a box. -/
structure Tri (w : World) (sb : Nat) (oi : Int) (on : ByteArray) (p : Option Addr) (n c : Nat) (ni : Int) (nn : ByteArray) (p2 : Option Addr) (n2 c2 : Nat) (rn ro : Int) (q : Option Addr) (m qc : Nat) : Prop where
  o0 : w.cell? ⟨sb, 0, none⟩ = some (.int .i64 oi)
  o1 : w.cell? ⟨sb, 1, none⟩ = some (.string on)
  o2 : w.cell? ⟨sb, 2, none⟩ = some (.slice p n c)
  n0 : w.cell? ⟨sb + 1, 0, none⟩ = some (.int .i64 ni)
  n1 : w.cell? ⟨sb + 1, 1, none⟩ = some (.string nn)
  n2 : w.cell? ⟨sb + 1, 2, none⟩ = some (.slice p2 n2 c2)
  r0 : w.cell? ⟨sb + 1 + 1, 0, none⟩ = some (.int .i64 rn)
  r1 : w.cell? ⟨sb + 1 + 1, 1, none⟩ = some (.int .i64 ro)
  r2 : w.cell? ⟨sb + 1 + 1, 2, none⟩ = some (.slice q m qc)
theorem tri_of {w : World} {sb : Nat} {oi : Int} {on : ByteArray} {p : Option Addr} {n c : Nat} {ni : Int} {nn : ByteArray} {p2 : Option Addr} {n2 c2 : Nat} {rn ro : Int} {q : Option Addr} {m qc : Nat} {t1 t2 t3 : TypeId}
    (h1 : w.heap[sb]? = some (.cells #[.int .i64 oi, .string on, .slice p n c] t1 (0, 0))) (h2 : w.heap[sb + 1]? = some (.cells #[.int .i64 ni, .string nn, .slice p2 n2 c2] t2 (0, 0))) (h3 : w.heap[sb + 1 + 1]? = some (.cells #[.int .i64 rn, .int .i64 ro, .slice q m qc] t3 (0, 0))) :
    ∀ wy S, Keep S w wy → ¬ S sb → ¬ S (sb + 1) → ¬ S (sb + 1 + 1) → Tri wy sb oi on p n c ni nn p2 n2 c2 rn ro q m qc := fun wy S hk k1 k2 k3 =>
  ⟨cell_of (hk.get h1 k1) (by rfl), cell_of (hk.get h1 k1) (by rfl), cell_of (hk.get h1 k1) (by rfl), cell_of (hk.get h2 k2) (by rfl), cell_of (hk.get h2 k2) (by rfl), cell_of (hk.get h2 k2) (by rfl), cell_of (hk.get h3 k3) (by rfl), cell_of (hk.get h3 k3) (by rfl), cell_of (hk.get h3 k3) (by rfl)⟩
theorem ne_facts {z : Nat} (h0 : z ≠ 0) : ((z : Int) == 0) = false ∧ (z == 0) = false ∧ ((z : Int) != 0) = true ∧ (z != 0) = true := by
  have g1 : ((z : Int) == 0) = false := beq_eq_false_iff_ne.2 (by omega)
  have g2 : (z == 0) = false := beq_eq_false_iff_ne.2 h0
  exact ⟨g1, g2, by rw [bne, g1]; rfl, by rw [bne, g2]; rfl⟩

set_option maxRecDepth 20000 in
set_option maxHeartbeats 8000000 in
theorem ev_ready (oi : Int) (on : ByteArray) (fs : List Fld) (p : Option Addr) (cap : Nat) (ni : Int) (nn : ByteArray) (gs : List Fld) (p2 : Option Addr) (cap2 : Nat) (rn ro : Int) (es : List (List Ins)) (q : Option Addr) (qc : Nat) (vs : List WI) (vq : Option Addr) (vc : Nat) (w : World)
    (hcap : fs.length ≤ cap) (hvc : vs.length ≤ vc) (hl : fs.length ≤ 4398046511104) (hl2 : gs.length ≤ 4398046511104) (hvf : ∀ x ∈ vs, x.fit) (hfit : ∀ c ∈ es, ∀ x ∈ c, x.k.fit)
    (hf : FP w w.heap.size p fs) (hf2 : FP w w.heap.size p2 gs) (hc : EP w w.heap.size q es) (hv : XP w w.heap.size vq vs) :
    Calls Tryz.prog 32 #[CoV oi on p fs.length cap, CoV ni nn p2 gs.length cap2, RvV rn ro q es.length qc, .slice vq vs.length vc] w
      fun e w' => e = .returned (iV (readyC ⟨oi, on, fs⟩ ⟨ni, nn, gs⟩ ⟨rn, ro, es⟩ vs)) ∧ Keep (fun _ => False) w w' := by
  obtain ⟨w3, hw3, hb1, hb2, hb3, hs3, hk3⟩ := box3 w #[.int .i64 oi, .string on, .slice p fs.length cap] #[.int .i64 ni, .string nn, .slice p2 gs.length cap2] #[.int .i64 rn, .int .i64 ro, .slice q es.length qc] 24 24 27
  have HK := hid hk3
  have HTR := hid (tri_of hb1 hb2 hb3)
  have HD : Hid (∀ wy, Keep (fun _ => False) w3 wy → FP wy wy.heap.size p fs ∧ FP wy wy.heap.size p2 gs ∧ EP wy wy.heap.size q es ∧ XP wy wy.heap.size vq vs) := hid (fun wy hk =>
    ⟨FP.mono (FP.low hf (Low.keep0 (hk3.trans hk))) (hk3.trans hk).size, FP.mono (FP.low hf2 (Low.keep0 (hk3.trans hk))) (hk3.trans hk).size, EP.mono (EP.low hc (Low.keep0 (hk3.trans hk))) (hk3.trans hk).size, XP.mono (XP.low hv (Low.keep0 (hk3.trans hk))) (hk3.trans hk).size⟩)
  have HRC : Hid (readyC ⟨oi, on, fs⟩ ⟨ni, nn, gs⟩ ⟨rn, ro, es⟩ vs = if fitC fs vs ≠ 0 then fitC fs vs else if layC gs ≠ 0 then layC gs else if ro = 0 then 7 else ruleC ⟨oi, on, fs⟩ ⟨ni, nn, gs⟩ ⟨rn, ro, es⟩) := hid rfl
  have HFT := hid (fun wy (hk : Keep (fun _ => False) w3 wy) => lay_fitU fs p cap vs vq vc wy hcap hvc hvf (HD.out wy hk).1 (HD.out wy hk).2.2.2)
  have HLC := hid (fun wy (hk : Keep (fun _ => False) w3 wy) => layout_check gs p2 cap2 wy (HD.out wy hk).2.1)
  have HCR := hid (fun wy (hk : Keep (fun _ => False) w3 wy) => chk_rule ⟨oi, on, fs⟩ ⟨ni, nn, gs⟩ ⟨rn, ro, es⟩ p cap p2 cap2 q qc wy hl hl2 hfit (HD.out wy hk).1 (HD.out wy hk).2.1 (HD.out wy hk).2.2.1)
  clear hf hf2 hc hv hk3 hs3 hfit hvf hb1 hb2 hb3
  generalize readyC ⟨oi, on, fs⟩ ⟨ni, nn, gs⟩ ⟨rn, ro, es⟩ vs = R at *
  generalize ruleC ⟨oi, on, fs⟩ ⟨ni, nn, gs⟩ ⟨rn, ro, es⟩ = RC at *
  generalize fitC fs vs = F at *
  generalize layC gs = L at *
  go_enter Tryz.func32, Tryz.ntmps32
  go_upto_region 1 with fail
  rw [← hw3]
  clear hw3
  generalize w.heap.size = sb at *
  obtain ⟨o0, o1, o2, n0, n1, n2, r0, r1, r2⟩ := HTR.out _ _ (Keep.refl (fun _ => False) w3) (fun e => e) (fun e => e) (fun e => e)
  go_wp2_with fail
  refine (HFT.out _ (Keep.refl _ _)).mono ?_
  rintro e w4 ⟨rfl, hk⟩
  have HP4 := hid hk
  clear hk HFT o0 o1 o2 n0 n1 n2 r0 r1 r2
  by_cases hz : F = 0
  rotate_left
  · obtain ⟨g1, g2, g3, g4⟩ := ne_facts hz
    have G : Hid (R = F) := hid (by rw [HRC.out, if_pos hz])
    clear hz
    go_wp2
    go_ret
    exact ⟨by rw [G.out]; rfl, HK.out.trans HP4.out⟩
  have HR2 : Hid (R = if L ≠ 0 then L else if ro = 0 then 7 else RC) := hid (by rw [HRC.out, if_neg (by simpa using hz)])
  subst hz
  clear HRC
  obtain ⟨o0, o1, o2, n0, n1, n2, r0, r1, r2⟩ := HTR.out _ _ HP4.out (fun e => e) (fun e => e) (fun e => e)
  go_wp2_with fail
  refine (HLC.out _ HP4.out).mono ?_
  rintro e w5 ⟨rfl, hk⟩
  have HP5 := hid (HP4.out.trans hk)
  clear hk HLC o0 o1 o2 n0 n1 n2 r0 r1 r2
  by_cases hz : L = 0
  rotate_left
  · obtain ⟨g1, g2, g3, g4⟩ := ne_facts hz
    have G : Hid (R = L) := hid (by rw [HR2.out, if_pos hz])
    clear hz
    go_wp2
    go_ret
    exact ⟨by rw [G.out]; rfl, HK.out.trans HP5.out⟩
  have HR3 : Hid (R = if ro = 0 then 7 else RC) := hid (by rw [HR2.out, if_neg (by simpa using hz)])
  subst hz
  clear HR2
  obtain ⟨o0, o1, o2, n0, n1, n2, r0, r1, r2⟩ := HTR.out _ _ HP5.out (fun e => e) (fun e => e) (fun e => e)
  by_cases h0 : ro = 0
  · have G : Hid (R = 7) := hid (by rw [HR3.out, if_pos h0])
    subst h0
    go_wp2
    go_ret
    exact ⟨by rw [G.out]; rfl, HK.out.trans HP5.out⟩
  have G : Hid (R = RC) := hid (by rw [HR3.out, if_neg h0])
  have g0 : (ro == 0) = false := beq_eq_false_iff_ne.2 h0
  go_wp2_with fail
  refine (HCR.out _ HP5.out).mono ?_
  rintro e w6 ⟨rfl, hk⟩
  have HP6 := hid (HP5.out.trans hk)
  clear hk
  go_wp2
  go_ret
  exact ⟨by rw [G.out]; rfl, HK.out.trans HP6.out⟩

set_option maxRecDepth 20000 in
set_option maxHeartbeats 8000000 in
theorem ev_element (nm : ByteArray) (kd ct : Int) (code : List Ins) (p : Option Addr) (cap : Nat) (fs : List (List WI)) (q : Option Addr) (n qc : Nat) (k : Nat) (w : World) (hn : n = fs.length) (hfit : ∀ x ∈ code, x.k.fit) (hfs : FitF fs) (hk : k ≤ 65536) (hf : IP w w.heap.size p code) (hq : YP w w.heap.size q fs) :
    Calls Tryz.prog 34 #[.agg #[.string nm, .int .i64 kd, .int .i64 ct], .slice p code.length cap, EnvV q n qc (k : Int)] w fun r w' => r = .returned (.tuple #[WV (elemE fs kd code (k : Int)).1, iV (elemE fs kd code (k : Int)).2]) ∧ Keep (fun _ => False) w w' := by
  subst hn
  obtain ⟨w3, hw3, hb1, hb2, hb3, hs3, hk3⟩ := box3 w #[.string nm, .int .i64 kd, .int .i64 ct] #[.slice q fs.length qc, .int .i64 (k : Int)] Z3 83 97 86
  have HK := hid hk3; have HB1 := hid hb1; have HB2 := hid hb2; have HB3 := hid hb3
  have HEV := hid (expr_eval code p cap fs q qc (k : Int) w3 hfit hfs (by omega) (IP.mono (IP.low hf (Low.keep0 hk3)) hk3.size) (YP.mono (YP.low hq (Low.keep0 hk3)) hk3.size))
  have HEW : Hid (elemE fs kd code (k : Int) = if (evalW fs (k : Int) code).2 ≠ 0 then (zW, (evalW fs (k : Int) code).2) else if fitsB kd (evalW fs (k : Int) code).1 = true then ((evalW fs (k : Int) code).1, 0) else (zW, 3)) := hid rfl
  have HXF : Hid ((evalW fs (k : Int) code).1.fit) := hid (evalW_fit hfs (by omega) hfit)
  clear hf hq hk3 hs3 hfit hfs hb1 hb2 hb3
  generalize elemE fs kd code (k : Int) = R at *
  generalize evalW fs (k : Int) code = E at *
  obtain ⟨X, z⟩ := E
  simp only at HEW HXF HEV
  go_enter Tryz.func34, Tryz.ntmps34
  go_upto_region 1 with fail
  rw [← hw3]
  clear hw3
  obtain ⟨sb, hsb⟩ : ∃ sb, w.heap.size = sb := ⟨_, rfl⟩
  have HSB := hid hsb
  rw [hsb] at HB1 HB2 HB3 ⊢
  clear hsb
  have e0 := cell_of HB2.out (i := 0) (by rfl)
  have e1 := cell_of HB2.out (i := 1) (by rfl)
  go_wp2_with fail
  refine HEV.out.mono ?_
  rintro r w4 ⟨rfl, hk4⟩
  obtain ⟨w5, hw5, hb5, hs5, hk5⟩ := box1 w4 (WC X) 86
  have HP5 := hid (hk4.trans hk5); have HB5 := hid hb5
  have HK5 := hid (HK.out.trans (hk4.trans hk5))
  clear hk4 hk5 hs5 hb5 HEV e0 e1
  go_upto_region 2 with fail
  rw [← hw5]
  clear hw5
  generalize w4.heap.size = xb at *
  have HC3 := hid (HP5.out.get HB3.out (fun e => e))
  obtain ⟨sr, hsr⟩ : ∃ sr, sb + 1 + 1 = sr := ⟨_, rfl⟩
  have HSR : Hid (w.heap.size ≤ sr) := hid (by have := HSB.out; omega)
  rw [hsr] at HC3 ⊢
  have f0 := free_of HC3.out 0
  have f1 := free_of HC3.out 1
  have f2 := free_of HC3.out 2
  have c0 := cell_of HC3.out (i := 0) (by rfl)
  have c1 := cell_of HC3.out (i := 1) (by rfl)
  have c2 := cell_of HC3.out (i := 2) (by rfl)
  by_cases hz : z = 0
  rotate_left
  · obtain ⟨g1, g2, g3, g4⟩ := ne_facts hz
    have G : Hid (R = (zW, z)) := hid (by rw [HEW.out, if_pos hz])
    clear hz
    go_wp2
    (try simp only [Exit.inBlock, Exit.then])
    refine bodyPost_ret (results_ct rfl _ rfl (run_loadVar_row _ sr _ 86 _ _ _ (cells3 (.bool false) (.int .u64 0) (.int .u64 0) HC3.out) Tryz.underlying86 rfl (by kernel_rfl))) rfl ?_
    exact ⟨by rw [G.out]; rfl, ((HK5.out.setCell_new (p := ⟨sr, 0, none⟩) HSR.out _).setCell_new (p := ⟨sr, 1, none⟩) HSR.out _).setCell_new (p := ⟨sr, 2, none⟩) HSR.out _⟩
  have HR2 : Hid (R = if fitsB kd X = true then (X, 0) else (zW, 3)) := hid (by rw [HEW.out, if_neg (by simpa using hz)])
  subst hz
  clear HEW
  have d1 : w5.cell? ⟨sb, 1, none⟩ = some (.int .i64 kd) := cell_of (HP5.out.get HB1.out (fun e => e)) (by rfl)
  have x0 := cell_of HB5.out (i := 0) (by rfl)
  have x1 := cell_of HB5.out (i := 1) (by rfl)
  have x2 := cell_of HB5.out (i := 2) (by rfl)
  have HFF := hid (f_fits kd X HXF.out w5)
  clear f0 f1 f2 c0 c1 c2
  go_wp2_with fail
  refine HFF.out.mono ?_
  rintro r w6 ⟨rfl, hk6⟩
  have HK6 := hid (HK5.out.trans hk6)
  have HC6 := hid (hk6.get HC3.out (fun e => e))
  have HB6 := hid (hk6.get HB5.out (fun e => e))
  have f0 := free_of HC6.out 0
  have f1 := free_of HC6.out 1
  have f2 := free_of HC6.out 2
  have c0 := cell_of HC6.out (i := 0) (by rfl)
  have c1 := cell_of HC6.out (i := 1) (by rfl)
  have c2 := cell_of HC6.out (i := 2) (by rfl)
  clear hk6 HFF d1 x0 x1 x2
  cases hx : fitsB kd X
  · have G : Hid (R = (zW, 3)) := hid (by rw [HR2.out, hx]; rfl)
    clear hx HR2
    go_wp2
    (try simp only [Exit.inBlock, Exit.then])
    refine bodyPost_ret (results_ct rfl _ rfl (run_loadVar_row _ sr _ 86 _ _ _ (cells3 (.bool false) (.int .u64 0) (.int .u64 0) HC6.out) Tryz.underlying86 rfl (by kernel_rfl))) rfl ?_
    exact ⟨by rw [G.out]; rfl, ((HK6.out.setCell_new (p := ⟨sr, 0, none⟩) HSR.out _).setCell_new (p := ⟨sr, 1, none⟩) HSR.out _).setCell_new (p := ⟨sr, 2, none⟩) HSR.out _⟩
  have G : Hid (R = (X, 0)) := hid (by rw [HR2.out, hx]; rfl)
  have x0 := cell_of HB6.out (i := 0) (by rfl)
  have x1 := cell_of HB6.out (i := 1) (by rfl)
  have x2 := cell_of HB6.out (i := 2) (by rfl)
  clear hx HR2
  go_wp2
  (try simp only [Exit.inBlock, Exit.then])
  refine bodyPost_ret (results_ct rfl _ rfl (run_loadVar_row _ sr _ 86 _ _ _ (cells3 (.bool X.neg) (.int .u64 (X.hi : Int)) (.int .u64 (X.lo : Int)) HC6.out) Tryz.underlying86 rfl (by kernel_rfl))) rfl ?_
  exact ⟨by rw [G.out]; rfl, ((HK6.out.setCell_new (p := ⟨sr, 0, none⟩) HSR.out _).setCell_new (p := ⟨sr, 1, none⟩) HSR.out _).setCell_new (p := ⟨sr, 2, none⟩) HSR.out _⟩
end Go.Proofs.YtlhdofkgcbmnnaaGreat
