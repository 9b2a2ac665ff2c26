/- What is proved: what Line of the diff answers. -/
import Derived.Test.YtdekdefjfaoclaaDoorDif5
import Derived.Test.YtdekdefjfaoclaaDoorRegion
namespace Go.Proofs.YtdekdefjfaoclaaDoor
open Go.RowKit Go.Proofs.Heap Go.Proofs.Sch

set_option maxRecDepth 20000 in
set_option maxHeartbeats 4000000 in
theorem dif_line (x : Chg) (w : World) (hfl : x.field.size ≤ 1000000) (hit : ItOk x.comp w) :
    Calls Tryd.prog 16 #[.agg #[.int .i64 x.kind, .int .i64 x.comp, .string x.field]] w fun r w' => r = .returned (.string (lineB x)) ∧ Keep (fun _ => False) w w' := by
  obtain ⟨kd, co, fl⟩ := x
  simp only at hit hfl
  obtain ⟨w3, hw3, hb3, hs3, hk3⟩ := box1 w #[.int .i64 kd, .int .i64 co, .string fl] 40
  have HK := hid hk3
  have HI := hid hit
  clear hit hk3 hs3
  go_enter Tryd.func16, Tryd.ntmps16
  go_upto_region 1 with fail
  rw [← hw3]
  clear hw3
  generalize w.heap.size = sb at *
  have HW : Hid (∀ wy, Keep (fun _ => False) w3 wy → wy.cell? ⟨sb, 0, none⟩ = some (.int .i64 kd) ∧ wy.cell? ⟨sb, 1, none⟩ = some (.int .i64 co) ∧ wy.cell? ⟨sb, 2, none⟩ = some (.string fl)) := hid (fun wy hk =>
    ⟨cell_of (hk.get hb3 id) (by rfl), cell_of (hk.get hb3 id) (by rfl), cell_of (hk.get hb3 id) (by rfl)⟩)
  clear hb3
  obtain ⟨s0, s1, s2⟩ := HW.out _ (Keep.refl _ w3)
  by_cases hlo : kd < 1
  · have g1 : decide (kd < 1) = true := decide_eq_true hlo
    have G : Hid (lineB ⟨kd, co, fl⟩ = ⟨#[]⟩) := hid (if_pos (.inl hlo))
    go_wp2
    go_ret
    exact ⟨by rw [G.out]; rfl, HK.out⟩
  by_cases hhi : 7 < kd
  · have g1 : decide (kd < 1) = false := decide_eq_false hlo
    have g2 : decide (7 < kd) = true := decide_eq_true hhi
    have G : Hid (lineB ⟨kd, co, fl⟩ = ⟨#[]⟩) := hid (if_pos (.inr hhi))
    go_wp2
    go_ret
    exact ⟨by rw [G.out]; rfl, HK.out⟩
  have g1 : decide (kd < 1) = false := decide_eq_false hlo
  have g2 : decide (7 < kd) = false := decide_eq_false hhi
  obtain ⟨k, rfl⟩ : ∃ k : Nat, kd = (k : Int) := ⟨kd.toNat, by omega⟩
  have hk7 : 1 ≤ k ∧ k ≤ 7 := by omega
  go_upto_region 3 with fail
  clear g1 g2 hlo hhi s0 s1 s2
  have HKD := hid (Keep.refl (fun _ => False) w3).drew
  obtain ⟨s0, s1, s2⟩ := HW.out _ HKD.out
  refine Plan.wp_region_pl [(false, 1, []), (false, 2, []), (false, 6, []), (false, 7, []), (true, 0, [7, 6, 2, 1]), (false, 3, []), (false, 4, []), (false, 5, []), (true, 8, [5, 4, 3, 2, 1]), (false, 9, []), (false, 10, [])] (by kernel_rfl) (by kernel_rfl) ?_
  iterate 4 (refine Plan.pl_st rfl ?_; go_big_quiet_step (fail); refine wpQuiet_nil ?_)
  refine Plan.pl_ac rfl ?_
  go_wp2_with fail
  refine (dif_names _).mono ?_
  rintro r w4 ⟨rfl, hb4, hk4⟩
  have HK4 := hid (HKD.out.trans hk4)
  have HB4 := hid hb4
  clear hb4 hk4 s0 s1 s2
  generalize w3.drew.heap.size = nb at *
  obtain ⟨s0, s1, s2⟩ := HW.out _ HK4.out
  have c0 : w4.cell? ⟨nb, k, none⟩ = some (.string (nmB k)) := cell_of HB4.out (nms_at k (by omega))
  have hin : (0 : Int) ≤ (k : Int) ∧ (k : Int) < 8 := ⟨by omega, by omega⟩
  go_wp2
  refine Plan.plQ_mk ?_ ?_
  · iterate 4 (refine Plan.chk_st rfl ?_ ?_; focus (go_big_quiet_step (fail); exact wpQuiet_nil rfl))
    exact Plan.chk_end
  have hnm := nmB_size k
  have htx := HI.out.1
  have q1 : ¬ 9223372036854775807 < (nmB k).size + 1 := by omega
  iterate 3 (refine Plan.pl_st rfl ?_; go_big_quiet_step (fail); refine wpQuiet_nil ?_)
  refine Plan.pl_ac rfl ?_
  go_wp2_with fail
  refine (HI.out.2 _ (HK.out.trans HK4.out)).mono ?_
  rintro r w5 ⟨rfl, hk5⟩
  have HK5 := hid (HK4.out.trans hk5)
  have HB5 := hid (hk5.get HB4.out id)
  clear hk5 s0 s1 s2 c0
  obtain ⟨s0, s1, s2⟩ := HW.out _ HK5.out
  have c0 : w5.cell? ⟨nb, k, none⟩ = some (.string (nmB k)) := cell_of HB5.out (nms_at k (by omega))
  have G : Hid (lineB ⟨(k : Int), co, fl⟩ = if fl = ⟨#[]⟩ then nmB k ++ spB ++ itB co else nmB k ++ spB ++ itB co ++ (spB ++ fl)) := hid (if_neg (by simp only; omega))
  generalize itB co = tx at *
  generalize nmB k = nm at *
  go_wp2
  refine Plan.plQ_mk ?_ ?_
  · iterate 5 (refine Plan.chk_st rfl ?_ ?_; focus (go_big_quiet_step (fail); exact wpQuiet_nil rfl))
    exact Plan.chk_end
  iterate 2 (refine Plan.pl_st rfl ?_; go_big_quiet_step (fail); refine wpQuiet_nil ?_)
  refine Plan.pl_end ?_
  by_cases he : fl = ⟨#[]⟩
  · subst he
    go_wp2
    go_ret
    exact ⟨by rw [G.out, if_pos True.intro]; rfl, HK.out.trans HK5.out⟩
  · have g2 : (!fl.toList.isEmpty) = true := by
      rw [empty_no (fun h => he ?_)]
      · rfl
      · obtain ⟨⟨l⟩⟩ := fl
        cases l with
        | nil => rfl
        | cons a l => simp [ByteArray.size] at h
    have HNE := hid he
    clear he
    go_wp2
    go_ret
    exact ⟨by rw [G.out, if_neg HNE.out]; rfl, HK.out.trans HK5.out⟩
end Go.Proofs.YtdekdefjfaoclaaDoor
