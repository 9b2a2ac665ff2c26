/- What is proved: what comp of the diff's reference answers, kind by kind. -/
import Derived.Test.YtdekdefjfaoclaaDoorRf9c
import Derived.Test.YtdekdefjfaoclaaDoorDif2
namespace Go.Proofs.YtdekdefjfaoclaaDoor
open Go.RowKit Go.Proofs.Heap Go.Proofs.Sch

set_option maxRecDepth 20000 in
set_option maxHeartbeats 8000000 in
theorem rf_comp4 (a b : Cmp) (p : Option Addr) (cap : Nat) (p2 : Option Addr) (cap2 : Nat) (w : World) (hl : a.fs.length ≤ 65536) (hl2 : b.fs.length ≤ 65536) (hf : FP w w.heap.size p a.fs) (hf2 : FP w w.heap.size p2 b.fs) :
    Calls Tryd.prog 24 #[.agg #[.int .i64 a.id, .string a.name, .slice p a.fs.length cap], .agg #[.int .i64 b.id, .string b.name, .slice p2 b.fs.length cap2], .int .i64 4] w fun r w' => ∃ v, r = .returned v ∧
      w'.ownsRow w.heap.size 41 3 v (missL a.fs b.fs 4 a.id).length ((missL a.fs b.fs 4 a.id).flatMap ccl3) ∧ Keep (fun _ => False) w w' := by
  obtain ⟨i0, hi0, hz0, hz1, hz2⟩ := info_parts' info_chg2
  obtain ⟨ai, an, fs⟩ := a
  obtain ⟨bi, bn, gs⟩ := b
  simp only at hl hl2 hf hf2
  obtain ⟨w2, hw2, hb1, hb2, hs2, hk2⟩ := box2 w #[.int .i64 ai, .string an, .slice p fs.length cap] #[.int .i64 bi, .string bn, .slice p2 gs.length cap2] 46 46
  obtain ⟨w3, hw3, _, hs3, hk3⟩ := box1 w2 #[] 41
  have HO0 : Hid (w3.ownsRow w2.heap.size 41 3 (.slice (some ⟨w2.heap.size, 0, none⟩) 0 0) 0 []) := hid (hw3 ▸ World.ownsRow_made w2 #[] 0 (Nat.le_refl _) (by unfold maxLen; omega) (by simp))
  have HK := hid hk2
  have HK3 := hid hk3
  have HD : Hid (∀ wy, Keep (fun _ => False) w2 wy → FP wy wy.heap.size p fs ∧ FP wy wy.heap.size p2 gs) := hid (fun wy hk =>
    ⟨FP.mono (FP.low hf (Low.keep0 (hk2.trans hk))) (hk2.trans hk).size, FP.mono (FP.low hf2 (Low.keep0 (hk2.trans hk))) (hk2.trans hk).size⟩)
  have HS2 := hid hk2.size
  have hs2' := hs2
  have HSS := hid hs2'
  clear hf hf2 hk2 hk3 hs2 hs3 hs2'
  go_enter Tryd.func24, Tryd.ntmps24
  go_upto_region 2 with fail
  rw [← hw2]
  clear hw2
  rw [← hw3]
  clear hw3
  generalize hsb : w.heap.size = sb at *
  have HOB : Hid (w2.heap.size = sb + 1 + 1) := hid (by have := HSS.out; omega)
  rw [HOB.out] at HO0
  have HW : Hid (∀ wy, Keep (fun _ => False) w2 wy → (wy.cell? ⟨sb, 0, none⟩ = some (.int .i64 ai) ∧ wy.cell? ⟨sb, 1, none⟩ = some (.string an) ∧ wy.cell? ⟨sb, 2, none⟩ = some (.slice p fs.length cap)) ∧ (wy.cell? ⟨sb + 1, 0, none⟩ = some (.int .i64 bi) ∧ wy.cell? ⟨sb + 1, 1, none⟩ = some (.string bn) ∧ wy.cell? ⟨sb + 1, 2, none⟩ = some (.slice p2 gs.length cap2))) := hid (fun wy hk =>
    ⟨⟨cell_of (hk.get hb1 id) (by rfl), cell_of (hk.get hb1 id) (by rfl), cell_of (hk.get hb1 id) (by rfl)⟩, cell_of (hk.get hb2 id) (by rfl), cell_of (hk.get hb2 id) (by rfl), cell_of (hk.get hb2 id) (by rfl)⟩)
  clear hb1 hb2
  go_wp2_with fail
  go_loopw [7, 8, 9] (fun v i _ wr => ∃ k : Nat, k ≤ fs.length ∧ i = iV k ∧ wr.ownsRow (sb + 1 + 1) 41 3 v (missL (fs.take k) gs 4 ai).length ((missL (fs.take k) gs 4 ai).flatMap ccl3) ∧ Keep (fun _ => False) w2 wr) (fun _ i _ _ => fs.length + 1 - (intOf i).toNat)
  case atStart => exact ⟨0, Nat.zero_le _, rfl, HO0.out, HK3.out⟩
  case round =>
    obtain ⟨k, hk, rfl, how, hkr⟩ := hrel
    obtain ⟨vp, vc, rfl⟩ := owns_val how
    have HO := hid (owns_keep (w' := wr.drew) how (fun _ _ => rfl)); have HKR := hid hkr.drew
    have HO_ := hid how; have HKR_ := hid hkr
    clear how hkr
    by_cases hlt : k < fs.length
    · obtain ⟨x, hxk⟩ : ∃ x, fs[k]? = some x := ⟨fs[k], by simp [hlt]⟩
      have HNX := hid (missL_next gs 4 ai hxk)
      have HLE := hid (missL_le fs gs 4 ai k)
      have HXK := hid hxk
      obtain ⟨b, off, rfl, hb, c0, c1, c2⟩ := FP.at (HD.out _ HKR.out).1 hxk
      have hin : (0 : Int) ≤ (k : Int) ∧ (k : Int) < (fs.length : Int) := ⟨by omega, by omega⟩
      clear hxk hb
      obtain ⟨fn, fk, fc⟩ := x
      simp only at c0 c1 c2
      obtain ⟨⟨s0, s1, s2⟩, s3, s4, s5⟩ := HW.out _ HKR.out
      obtain ⟨⟨_, _, t2⟩, _⟩ := HW.out _ HKR_.out
      go_upto_region 11 with fail
      refine Plan.wp_region_pl [(false, 0, []), (false, 1, []), (false, 2, []), (false, 3, []), (false, 4, []), (false, 5, []), (false, 6, []), (true, 7, []), (false, 8, [])] (by kernel_rfl) (by kernel_rfl) ?_
      iterate 7 (refine Plan.pl_st rfl ?_; go_big_quiet_step (fail); refine wpQuiet_nil ?_)
      refine Plan.pl_ac rfl ?_
      go_wp2_with fail
      refine (rf_field bi bn fn gs p2 cap2 _ hl2 (HD.out _ HKR.out).2).mono ?_
      rintro r w5 ⟨rfl, hk5⟩
      have HK5 := hid (HKR.out.trans hk5)
      have HO5 := hid (owns_keep HO.out (fun q hq => hk5.block q (HO.out.lt q hq).2 id))
      clear hk5 s0 s1 s2 s3 s4 s5 c0 c1 c2 t2
      go_wp2
      refine Plan.plQ_mk Plan.chk_end ?_
      iterate 1 (refine Plan.pl_st rfl ?_; go_big_quiet_step (fail); refine wpQuiet_nil ?_)
      refine Plan.pl_end ?_
      have HKE := hid HK5.out.drew
      have HOE := hid (owns_keep (w' := w5.drew) HO5.out (fun _ _ => rfl))
      have HSZ := hid HKE.out.size
      obtain ⟨b', off', e', hb', c0, c1, c2⟩ := FP.at (HD.out _ HKE.out).1 HXK.out
      injection e' with e'; injection e' with e1' e2' e3'; subst e1'; subst e2'
      simp only at c0 c1 c2
      obtain ⟨⟨s0, s1, s2⟩, s3, s4, s5⟩ := HW.out _ HKE.out
      cases hq : hasF gs fn
      · rw [no_at hq]
        have G : Hid (missL (fs.take (k + 1)) gs 4 ai = missL (fs.take k) gs 4 ai ++ [⟨4, ai, fn⟩]) := hid (by rw [HNX.out, if_pos (by simp [hq])])
        clear hq
        have g7 : decide ((-1 : Int) < 0) = true := by decide
        generalize missL (fs.take k) gs 4 ai = us at *
        go_upto_region 12 with fail
        refine Plan.wp_region_pl [(false, 0, []), (false, 1, []), (false, 2, []), (false, 3, []), (false, 4, []), (false, 5, []), (false, 6, []), (false, 7, []), (false, 8, []), (false, 9, []), (false, 10, []), (false, 11, []), (false, 12, []), (false, 13, []), (false, 14, []), (false, 15, []), (false, 16, []), (false, 17, []), (false, 18, []), (false, 19, []), (false, 20, []), (false, 21, []), (false, 22, []), (false, 23, []), (false, 24, []), (false, 25, []), (false, 26, [])] (by kernel_rfl) (by kernel_rfl) ?_
        iterate 27 (refine Plan.pl_st rfl ?_; go_big_quiet_step (fail); refine wpQuiet_nil ?_)
        refine Plan.pl_end ?_
        go_wp2_with fail
        generalize w5.drew = wd at *
        have HKF := hid HKE.out.drew
        have HOF := hid (owns_keep (w' := wd.drew) HOE.out (fun _ _ => rfl))
        obtain ⟨b9, off9, e9, hb9, c0, c1, c2⟩ := FP.at (HD.out _ HKF.out).1 HXK.out
        injection e9 with e9; injection e9 with e91 e92 e93; subst e91; subst e92
        simp only at c0 c1 c2
        obtain ⟨⟨s0, s1, s2⟩, s3, s4, s5⟩ := HW.out _ HKF.out
        have HSZ := hid (show w2.heap.size ≤ wd.heap.size from HKF.out.size)
        refine Plan.wp_region_pl [(false, 0, []), (false, 1, []), (false, 2, []), (false, 3, []), (false, 4, []), (false, 5, []), (false, 6, []), (false, 7, []), (false, 8, []), (false, 9, []), (false, 10, []), (true, 11, [0]), (true, 12, []), (true, 13, [])] (by kernel_rfl) (by kernel_rfl) ?_
        iterate 11 (refine Plan.pl_st rfl ?_; go_big_quiet_step (fail); refine wpQuiet_nil ?_)
        refine Plan.pl_ac rfl ?_
        go_wp2
        refine Plan.plQ_mk ?_ ?_
        · iterate 1 (refine Plan.chk_st rfl ?_ ?_; focus (go_big_quiet_step (fail); exact wpQuiet_nil rfl))
          exact Plan.chk_end
        refine Plan.pl_ac rfl ?_
        refine wpList_append_rd rfl _ _ _ rfl (sb + 1 + 1) _ i0 _ 3 32 Tryd.underlying37 hi0 hz0 hz1 hz2 rfl (by decide) _ us.length _ (by rfl) (HOF.out.alloc _) _ 1 (ccl3 ⟨4, ai, fn⟩) (by rfl) (rd_block (heap_alloc_new wd.drew _) (by simp [ccl3]) (by simp [ccl3, Value.oneCell'])) (by unfold maxLen; have := HLE.out; omega) (by have := HLE.out; omega) (by have := HSZ.out; have := HOB.out; simp; omega) ?_
        intro v' w6 hown6 hgrow6 hat6 hn6
        obtain ⟨vq, vd, rfl⟩ := owns_val hown6
        have HO6 := hid hown6
        have HK6 := hid ((HKF.out.alloc _).grown hgrow6 (fun k hk => .inl (by have := (HOF.out.lt k hk).1; have := HOB.out; omega)))
        clear hown6 hgrow6 hat6 hn6
        go_wp2
        refine Plan.plQ_mk Plan.chk_end ?_
        refine Plan.pl_ac rfl ?_
        go_wp2
        refine Plan.plQ_mk Plan.chk_end ?_
        refine Plan.pl_end ?_
        go_wp2
        go_roundw
        case rel => exact ⟨k + 1, by omega, by go_num, by rw [G.out]; have h := HO6.out; simpa [ccl3] using h, HK6.out⟩
        case measure => simp [intOf]; omega
      · obtain ⟨n, g, hn1, hn2, hn3, hn4⟩ := has_at hq
        rw [hn1]
        have G : Hid (missL (fs.take (k + 1)) gs 4 ai = missL (fs.take k) gs 4 ai) := hid (by rw [HNX.out, if_neg (by simp [hq]), List.append_nil])
        have g7 : decide ((n : Int) < 0) = false := decide_eq_false (by omega)
        clear hq hn1 hn2
        go_upto_region 12 with fail
        refine Plan.wp_region_pl [(false, 0, []), (false, 1, []), (false, 2, []), (false, 3, []), (false, 4, []), (false, 5, []), (false, 6, []), (false, 7, []), (false, 8, []), (false, 9, []), (false, 10, []), (false, 11, []), (false, 12, []), (false, 13, []), (false, 14, []), (false, 15, []), (false, 16, []), (false, 17, []), (false, 18, []), (false, 19, []), (false, 20, []), (false, 21, []), (false, 22, []), (false, 23, []), (false, 24, []), (false, 25, []), (false, 26, [])] (by kernel_rfl) (by kernel_rfl) ?_
        iterate 27 (refine Plan.pl_st rfl ?_; go_big_quiet_step (fail); refine wpQuiet_nil ?_)
        refine Plan.pl_end ?_
        go_wp2_with fail
        go_wp2
        go_roundw
        case rel => exact ⟨k + 1, by omega, by go_num, by rw [G.out]; exact HOE.out, HKE.out⟩
        case measure => simp [intOf]; omega
    · obtain rfl : k = fs.length := by omega
      have g0 : decide ((fs.length : Int) < (fs.length : Int)) = false := decide_eq_false (by omega)
      obtain ⟨⟨s0, s1, s2⟩, s3, s4, s5⟩ := HW.out _ HKR_.out
      rw [List.take_length] at *
      go_wp2
      go_ret
      exact ⟨_, rfl, owns_mono HO_.out (show w.heap.size ≤ sb + 1 + 1 by omega), HK.out.trans HKR_.out⟩
end Go.Proofs.YtdekdefjfaoclaaDoor
