/- What is proved: what comp of the diff answers. -/
import Derived.Test.YtdekdefjfaoclaaDoorDif1b
import Derived.Test.YtdekdefjfaoclaaDoorEqStr
namespace Go.Proofs.YtdekdefjfaoclaaDoor
open Go.RowKit Go.Proofs.Heap Go.Proofs.Sch

theorem chg_one (l : List Chg) : ∀ u ∈ l.flatMap ccl3, u.oneCell' = true := by
  intro u hu
  obtain ⟨x, _, hx⟩ := List.mem_flatMap.1 hu
  exact ccl3_one x u hx
theorem missL_len (a b : List Fld) (kind id : Int) : (missL a b kind id).length ≤ a.length := by
  have := missL_le a b kind id a.length
  rwa [List.take_length] at this
theorem retyL_len (a b : List Fld) (id : Int) : (retyL a b id).length ≤ a.length := by
  have := retyL_le a b id a.length
  rwa [List.take_length] at this
theorem comL_len (a b : List Fld) : (comL a b).length ≤ a.length := by
  have := comL_le a b a.length
  rwa [List.take_length] at this

set_option maxRecDepth 20000 in
set_option maxHeartbeats 8000000 in
theorem dif_comp (a b : Cmp) (p : Option Addr) (cap : Nat) (p2 : Option Addr) (cap2 : Nat) (w : World) (hl : a.fs.length ≤ 65536) (hl2 : b.fs.length ≤ 65536) (hid_ : a.id = b.id) (hf : FP w w.heap.size p a.fs) (hf2 : FP w w.heap.size p2 b.fs) :
    Calls Tryd.prog 22 #[.agg #[.int .i64 a.id, .string a.name, .slice p a.fs.length cap], .agg #[.int .i64 b.id, .string b.name, .slice p2 b.fs.length cap2]] w fun r w' => ∃ v, r = .returned v ∧
      w'.ownsRow w.heap.size 40 3 v (compL a b).length ((compL a b).flatMap ccl3) ∧ Keep (fun _ => False) w w' := by
  obtain ⟨i0, hi0, hz0, hz1, hz2⟩ := info_parts' info_chg
  obtain ⟨ai, an, fs⟩ := a
  obtain ⟨bi, bn, gs⟩ := b
  simp only at hl hl2 hf hf2 hid_
  obtain ⟨w3, hw3, hb1, hb2, hs3, hk3⟩ := box2 w #[.int .i64 ai, .string an, .slice p fs.length cap] #[.int .i64 bi, .string bn, .slice p2 gs.length cap2] 46 46
  have HK := hid hk3
  have HD : Hid (∀ wy, Keep (fun _ => False) w3 wy → FP wy wy.heap.size p fs ∧ FP wy wy.heap.size p2 gs) := hid (fun wy hk =>
    ⟨FP.mono (FP.low hf (Low.keep0 (hk3.trans hk))) (hk3.trans hk).size, FP.mono (FP.low hf2 (Low.keep0 (hk3.trans hk))) (hk3.trans hk).size⟩)
  have HS3 := hid hk3.size
  have HID := hid hid_
  clear hf hf2 hk3 hs3 hid_
  have HCL : Hid (compL ⟨ai, an, fs⟩ ⟨bi, bn, gs⟩ = (if an = bn then [] else [⟨3, ai, noN⟩]) ++ missL fs gs 4 ai ++ missL gs fs 5 bi ++ retyL fs gs ai ++ (if comL fs gs = comL gs fs then [] else [⟨7, ai, noN⟩])) := hid rfl
  generalize compL ⟨ai, an, fs⟩ ⟨bi, bn, gs⟩ = CL at *
  go_enter Tryd.func22, Tryd.ntmps22
  go_upto_region 2 with fail
  rw [← hw3]
  clear hw3
  generalize hsb : w.heap.size = sb at *
  have HW : Hid (∀ wy, Keep (fun _ => False) w3 wy → (wy.cell? ⟨sb, 0, none⟩ = some (.int .i64 ai) ∧ wy.cell? ⟨sb, 1, none⟩ = some (.string an) ∧ wy.cell? ⟨sb, 2, none⟩ = some (.slice p fs.length cap)) ∧ (wy.cell? ⟨sb + 1, 0, none⟩ = some (.int .i64 bi) ∧ wy.cell? ⟨sb + 1, 1, none⟩ = some (.string bn) ∧ wy.cell? ⟨sb + 1, 2, none⟩ = some (.slice p2 gs.length cap2))) := hid (fun wy hk =>
    ⟨⟨cell_of (hk.get hb1 id) (by rfl), cell_of (hk.get hb1 id) (by rfl), cell_of (hk.get hb1 id) (by rfl)⟩, cell_of (hk.get hb2 id) (by rfl), cell_of (hk.get hb2 id) (by rfl), cell_of (hk.get hb2 id) (by rfl)⟩)
  clear hb1 hb2
  obtain ⟨⟨s0, s1, s2⟩, s3, s4, s5⟩ := HW.out _ (Keep.refl _ w3)
  have HLM1 := hid (missL_len fs gs 4 ai); have HLM2 := hid (missL_len gs fs 5 bi); have HLR := hid (retyL_len fs gs ai)
  have HLC1 := hid (comL_len fs gs); have HLC2 := hid (comL_len gs fs)
  go_upto_if 10 with fail
  generalize hB : (!an.toList == bn.toList) = B at *
  go_cut [5] from 10 to 16 (fun v wx => wx.ownsRow w3.heap.size 40 3 v (if an = bn then [] else [(⟨3, ai, noN⟩ : Chg)]).length ((if an = bn then [] else [(⟨3, ai, noN⟩ : Chg)]).flatMap ccl3) ∧ Keep (fun _ => False) w3 wx)
  case first =>
    cases B
    · have hn : an = bn := by
        cases e : (an.toList == bn.toList)
        · rw [e] at hB; cases hB
        · exact toList_inj (beq_iff_eq.1 e)
      go_wp2
      go_meet
      case rel => exact ⟨by rw [if_pos hn]; exact World.ownsRow_nil _ _ _ _, Keep.refl _ _⟩
    · have hn : an ≠ bn := by
        intro e
        rw [e] at hB
        simp at hB
      have HN := hid hn
      clear hn
      go_wp2_with (at_builtin; go_loud (refine wpList_append_rd rfl (.tmp 11) (.tmp 15) _ rfl w3.heap.size _ i0 _ 3 32 Tryd.underlying28 hi0 hz0 hz1 hz2 rfl (by decide) _ 0 [] (by rfl) (World.ownsRow_nil _ _ _ _) _ 1 _ (by rfl) (rd_block (heap_alloc_new w3 _) (by simp) (by simp [Value.oneCell'])) (by unfold maxLen; omega) (by omega) (by simp) ?_); go_loud (intro v' w6 hown6 hgrow6 hat6 hn6; obtain ⟨vq, vd, rfl⟩ := owns_val hown6; have HO6 := hid hown6; have HK6 := hid (((Keep.refl (fun _ => False) w3).alloc _).grown hgrow6 (fun k hk => by cases hk)); clear hown6 hgrow6 hat6 hn6))
      go_wp2
      go_meet
      case rel => exact ⟨by rw [if_neg HN.out]; have h := HO6.out; simpa [ccl3] using h, HK6.out⟩
  case rest =>
  obtain ⟨how, hkc⟩ := hcut
  clear s0 s1 s2 s3 s4 s5
  have HL0 : Hid ((if an = bn then [] else [(⟨3, ai, noN⟩ : Chg)]).length ≤ 1) := hid (by split <;> simp)
  generalize hL0 : (if an = bn then [] else [(⟨3, ai, noN⟩ : Chg)]) = L0 at *
  have HX0 := hid hL0
  have HK0 := hid hkc; have HO0 := hid how
  clear how hkc hL0
  generalize wc = u0 at *
  obtain ⟨⟨s0, s1, s2⟩, s3, s4, s5⟩ := HW.out _ HK0.out
  obtain ⟨vp0, vc0, rfl⟩ := owns_val HO0.out
  go_wp2_with fail
  refine (dif_missing ⟨ai, an, fs⟩ ⟨bi, bn, gs⟩ 4 p cap p2 cap2 _ (by simp only; omega) (by simp only; omega) (HD.out _ HK0.out).1 (HD.out _ HK0.out).2).mono ?_
  rintro r x1 ⟨nv1, rfl, ho1, hk1⟩
  obtain ⟨np1, nc1, rfl⟩ := owns_val ho1
  have HX1 := hid (HK0.out.trans hk1)
  have HOX1 := hid (owns_keep HO0.out (fun q hq => hk1.block q (HO0.out.lt q hq).2 id))
  have HON1 := hid ho1
  clear ho1 hk1 s0 s1 s2 s3 s4 s5
  simp only at HON1
  generalize missL fs gs 4 ai = m1 at *
  go_wp2_with (at_builtin; go_loud (refine wpList_append_rd rfl (.tmp 17) (.tmp 20) _ rfl w3.heap.size _ i0 _ 3 32 Tryd.underlying28 hi0 hz0 hz1 hz2 rfl (by decide) _ L0.length _ (by rfl) HOX1.out _ m1.length _ (by rfl) (rd_own HON1.out (chg_one _)) (by unfold maxLen; have := HL0.out; have := HLM1.out; omega) (by have := HL0.out; have := HLM1.out; omega) HX1.out.size ?_); go_loud (intro v' y1 hown6 hgrow6 hat6 hn6; rw [← List.flatMap_append, ← List.length_append] at hown6; have HL1 : Hid ((L0 ++ m1).length ≤ 1 + 1 * 65536) := hid (by have := HL0.out; have := HLM1.out; rw [List.length_append]; omega); generalize hL1 : L0 ++ m1 = L1 at *; have HE1 := hid hL1; obtain ⟨vp1, vc1, rfl⟩ := owns_val hown6; have HO1 := hid hown6; have HK1 := hid (HX1.out.grown hgrow6 (fun k hk => .inl (HOX1.out.lt k hk).1)); clear hown6 hgrow6 hat6 hn6 hL1; obtain ⟨⟨s0, s1, s2⟩, s3, s4, s5⟩ := HW.out _ HK1.out))
  refine (dif_missing ⟨bi, bn, gs⟩ ⟨ai, an, fs⟩ 5 p2 cap2 p cap _ (by simp only; omega) (by simp only; omega) (HD.out _ HK1.out).2 (HD.out _ HK1.out).1).mono ?_
  rintro r x2 ⟨nv2, rfl, ho2, hk2⟩
  obtain ⟨np2, nc2, rfl⟩ := owns_val ho2
  have HX2 := hid (HK1.out.trans hk2)
  have HOX2 := hid (owns_keep HO1.out (fun q hq => hk2.block q (HO1.out.lt q hq).2 id))
  have HON2 := hid ho2
  clear ho2 hk2 s0 s1 s2 s3 s4 s5
  simp only at HON2
  generalize missL gs fs 5 bi = m2 at *
  go_wp2_with (at_builtin; go_loud (refine wpList_append_rd rfl (.tmp 22) (.tmp 25) _ rfl w3.heap.size _ i0 _ 3 32 Tryd.underlying28 hi0 hz0 hz1 hz2 rfl (by decide) _ L1.length _ (by rfl) HOX2.out _ m2.length _ (by rfl) (rd_own HON2.out (chg_one _)) (by unfold maxLen; have := HL1.out; have := HLM2.out; omega) (by have := HL1.out; have := HLM2.out; omega) HX2.out.size ?_); go_loud (intro v' y2 hown6 hgrow6 hat6 hn6; rw [← List.flatMap_append, ← List.length_append] at hown6; have HL2 : Hid ((L1 ++ m2).length ≤ 1 + 2 * 65536) := hid (by have := HL1.out; have := HLM2.out; rw [List.length_append]; omega); generalize hL2 : L1 ++ m2 = L2 at *; have HE2 := hid hL2; obtain ⟨vp2, vc2, rfl⟩ := owns_val hown6; have HO2 := hid hown6; have HK2 := hid (HX2.out.grown hgrow6 (fun k hk => .inl (HOX2.out.lt k hk).1)); clear hown6 hgrow6 hat6 hn6 hL2; obtain ⟨⟨s0, s1, s2⟩, s3, s4, s5⟩ := HW.out _ HK2.out))
  refine (dif_retyped ⟨ai, an, fs⟩ ⟨bi, bn, gs⟩ p cap p2 cap2 _ (by simp only; omega) (by simp only; omega) (HD.out _ HK2.out).1 (HD.out _ HK2.out).2).mono ?_
  rintro r x3 ⟨nv3, rfl, ho3, hk3⟩
  obtain ⟨np3, nc3, rfl⟩ := owns_val ho3
  have HX3 := hid (HK2.out.trans hk3)
  have HOX3 := hid (owns_keep HO2.out (fun q hq => hk3.block q (HO2.out.lt q hq).2 id))
  have HON3 := hid ho3
  clear ho3 hk3 s0 s1 s2 s3 s4 s5
  simp only at HON3
  generalize retyL fs gs ai = m3 at *
  go_wp2_with (at_builtin; go_loud (refine wpList_append_rd rfl (.tmp 27) (.tmp 30) _ rfl w3.heap.size _ i0 _ 3 32 Tryd.underlying28 hi0 hz0 hz1 hz2 rfl (by decide) _ L2.length _ (by rfl) HOX3.out _ m3.length _ (by rfl) (rd_own HON3.out (chg_one _)) (by unfold maxLen; have := HL2.out; have := HLR.out; omega) (by have := HL2.out; have := HLR.out; omega) HX3.out.size ?_); go_loud (intro v' y3 hown6 hgrow6 hat6 hn6; rw [← List.flatMap_append, ← List.length_append] at hown6; have HL3 : Hid ((L2 ++ m3).length ≤ 1 + 3 * 65536) := hid (by have := HL2.out; have := HLR.out; rw [List.length_append]; omega); generalize hL3 : L2 ++ m3 = L3 at *; have HE3 := hid hL3; obtain ⟨vp3, vc3, rfl⟩ := owns_val hown6; have HO3 := hid hown6; have HK3 := hid (HX3.out.grown hgrow6 (fun k hk => .inl (HOX3.out.lt k hk).1)); clear hown6 hgrow6 hat6 hn6 hL3; obtain ⟨⟨s0, s1, s2⟩, s3, s4, s5⟩ := HW.out _ HK3.out))
  clear s0 s1 s2 s3 s4 s5
  have HKD := hid HK3.out.drew
  have HOD : Hid (y3.drew.ownsRow w3.heap.size 40 3 (.slice vp3 L3.length vc3) L3.length (L3.flatMap ccl3)) := hid (owns_keep HO3.out (fun _ _ => rfl))
  obtain ⟨⟨s0, s1, s2⟩, s3, s4, s5⟩ := HW.out _ HKD.out
  refine Plan.wp_region_pl [(false, 0, []), (false, 1, []), (false, 3, []), (false, 4, []), (true, 2, [4, 3]), (true, 5, []), (true, 6, []), (false, 7, [])] (by kernel_rfl) (by kernel_rfl) ?_
  iterate 4 (refine Plan.pl_st rfl ?_; go_big_quiet_step (fail); refine wpQuiet_nil ?_)
  refine Plan.pl_ac rfl ?_
  go_wp2_with fail
  refine (dif_common ⟨ai, an, fs⟩ ⟨bi, bn, gs⟩ p cap p2 cap2 _ (by simp only; omega) (by simp only; omega) (HD.out _ HKD.out).1 (HD.out _ HKD.out).2).mono ?_
  rintro r x4 ⟨cv4, rfl, ho4, hk4⟩
  obtain ⟨cp4, cc4, rfl⟩ := owns_val ho4
  have HX4 := hid (HKD.out.trans hk4)
  have HOX4 := hid (owns_keep HOD.out (fun q hq => hk4.block q (HOD.out.lt q hq).2 id))
  have HC4 := hid ho4
  clear ho4 hk4 s0 s1 s2 s3 s4 s5
  obtain ⟨⟨s0, s1, s2⟩, s3, s4, s5⟩ := HW.out _ HX4.out
  go_wp2
  refine Plan.plQ_mk ?_ ?_
  · iterate 2 (refine Plan.chk_st rfl ?_ ?_; focus (go_big_quiet_step (fail); exact wpQuiet_nil rfl))
    exact Plan.chk_end
  refine Plan.pl_ac rfl ?_
  go_wp2_with fail
  refine (dif_common ⟨bi, bn, gs⟩ ⟨ai, an, fs⟩ p2 cap2 p cap _ (by simp only; omega) (by simp only; omega) (HD.out _ HX4.out).2 (HD.out _ HX4.out).1).mono ?_
  rintro r x5 ⟨cv5, rfl, ho5, hk5⟩
  obtain ⟨cp5, cc5, rfl⟩ := owns_val ho5
  have HX5 := hid (HX4.out.trans hk5)
  have HOX5 := hid (owns_keep HOX4.out (fun q hq => hk5.block q (HOX4.out.lt q hq).2 id))
  have HC45 := hid (owns_keep HC4.out (fun q hq => hk5.block q (HC4.out.lt q hq).2 id))
  have HC5 := hid ho5
  clear ho5 hk5 s0 s1 s2 s3 s4 s5
  simp only at HC45 HC5
  have HDEC : Hid (decide (comL fs gs = comL gs fs) = true ↔ comL fs gs = comL gs fs) := hid decide_eq_true_iff
  have HCE := hid HCL.out
  generalize comL fs gs = cA at *
  generalize comL gs fs = cB at *
  go_wp2
  refine Plan.plQ_mk Plan.chk_end ?_
  refine Plan.pl_ac rfl ?_
  go_wp2_with fail
  refine (eq_strs cA cB _ _ _ _ _ _ _ (by have := HLC1.out; omega) HC45.out HC5.out).mono ?_
  rintro r x6 ⟨rfl, hk6⟩
  have HX6 := hid (HX5.out.trans hk6)
  have HOX6 := hid (owns_keep HOX5.out (fun q hq => hk6.block q (HOX5.out.lt q hq).2 id))
  clear hk6
  obtain ⟨⟨s0, s1, s2⟩, s3, s4, s5⟩ := HW.out _ HX6.out
  by_cases hc : cA = cB
  · rw [decide_eq_true hc]
    have HE : Hid (CL = L3) := hid (by rw [HCE.out, if_pos hc, List.append_nil])
    clear hc HCE
    go_wp2
    refine Plan.plQ_mk Plan.chk_end ?_
    iterate 1 (refine Plan.pl_st rfl ?_; go_big_quiet_step (fail); refine wpQuiet_nil ?_)
    refine Plan.pl_end ?_
    go_wp2
    go_ret
    rw [HE.out]
    exact ⟨_, rfl, owns_mono HOX6.out (by have := HS3.out; omega), HK.out.trans HX6.out⟩
  · rw [decide_eq_false hc]
    have HE : Hid (CL = L3 ++ [⟨7, ai, noN⟩]) := hid (by rw [HCE.out, if_neg hc])
    have HSZ := hid HX6.out.size
    clear hc HCE
    go_wp2
    refine Plan.plQ_mk Plan.chk_end ?_
    iterate 1 (refine Plan.pl_st rfl ?_; go_big_quiet_step (fail); refine wpQuiet_nil ?_)
    refine Plan.pl_end ?_
    go_wp2_with (at_builtin; go_loud (refine wpList_append_rd rfl (.tmp 40) (.tmp 44) _ rfl w3.heap.size _ i0 _ 3 32 Tryd.underlying28 hi0 hz0 hz1 hz2 rfl (by decide) _ L3.length _ (by rfl) (HOX6.out.alloc _) _ 1 _ (by rfl) (rd_block (heap_alloc_new x6 _) (by simp) (by simp [Value.oneCell'])) (by unfold maxLen; have := HL3.out; omega) (by have := HL3.out; omega) (by have := HSZ.out; simp; omega) ?_); go_loud (intro v' w6 hown6 hgrow6 hat6 hn6; have HO6 := hid hown6; have HK6 := hid ((HX6.out.alloc _).grown hgrow6 (fun k hk => .inl (HOX6.out.lt k hk).1)); clear hown6 hgrow6 hat6 hn6))
    go_wp2
    go_ret
    rw [HE.out]
    refine ⟨_, rfl, ?_, HK.out.trans HK6.out⟩
    have h := owns_mono HO6.out (show w.heap.size ≤ w3.heap.size by have := HS3.out; omega)
    rw [List.flatMap_append, List.length_append]
    simpa [ccl3, noN] using h
end Go.Proofs.YtdekdefjfaoclaaDoor
