/- What is proved: the law's awake answers true. -/
import Derived.Test.YthpafpgillnimaaSchTwo2
import Derived.Test.YthpafpgillnimaaRegion
import Derived.Deep.Cut
import Derived.Deep.CutRange
import Derived.Deep.CutBlock
namespace Go.Proofs.Ythpafpgillnimaa
open Go.RowKit Go.Proofs.Heap Go.Proofs.Sch Go.Proofs.Wide

theorem build_ints (A : Act) (w : World) {a0 a1 a2 a3 a4 a5 : Value} {af : Array Edge} {g : Option (Nat × Bool)} {p : String} (e0 : A.eval (.tmp 67) = .agg #[a0, a1, a2]) (e1 : A.eval (.tmp 68) = .agg #[a3, a4, a5]) :
    (execOp A.eval ⟨some 69, Op.buildSlice 48 2 #[(0, Operand.tmp 67), (1, Operand.tmp 68)], 48, p, af, g⟩).run Try.prog w = .ok (.value (.slice (some ⟨w.heap.size, 0, none⟩) 2 2)) (w.alloc (.cells #[a0, a1, a2, a3, a4, a5] 63)) := by
  have f0 : A.tmps[67]?.getD undef = .agg #[a0, a1, a2] := by simpa [Act.eval] using e0
  have f1 : A.tmps[68]?.getD undef = .agg #[a3, a4, a5] := by simpa [Act.eval] using e1
  simp [go_sem, f0, f1]

theorem build_parts (A : Act) (w : World) {a0 a1 a2 a3 : Value} {af : Array Edge} {g : Option (Nat × Bool)} {p : String} (e0 : A.eval (.tmp 76) = .agg #[a0, a1]) (e1 : A.eval (.tmp 77) = .agg #[a2, a3]) :
    (execOp A.eval ⟨some 78, Op.buildSlice 47 2 #[(0, Operand.tmp 76), (1, Operand.tmp 77)], 47, p, af, g⟩).run Try.prog w = .ok (.value (.slice (some ⟨w.heap.size, 0, none⟩) 2 2)) (w.alloc (.cells #[a0, a1, a2, a3] 50)) := by
  have f0 : A.tmps[76]?.getD undef = .agg #[a0, a1] := by simpa [Act.eval] using e0
  have f1 : A.tmps[77]?.getD undef = .agg #[a2, a3] := by simpa [Act.eval] using e1
  simp [go_sem, f0, f1]

theorem w_of_1 (w : World) : Calls Try.prog 28 #[.int .i64 1] w fun r w' => r = .returned (.agg #[.bool false, .int .u64 0, .int .u64 1]) ∧ Keep (fun _ => False) w w' := w_of 1 (by decide) w
theorem w_of_2 (w : World) : Calls Try.prog 28 #[.int .i64 32768] w fun r w' => r = .returned (.agg #[.bool false, .int .u64 0, .int .u64 32768]) ∧ Keep (fun _ => False) w w' := w_of 32768 (by decide) w

set_option maxRecDepth 20000 in
set_option maxHeartbeats 60000000 in
theorem awake_true (w : World) : Calls Try.prog 7 #[] w fun r w' => r = .returned (.bool true) ∧ Keep (fun _ => False) w w' := by
  go_enter Try.func7, Try.ntmps7
  go_wp2_with fail
  refine (law_two w).mono ?_
  rintro r w1 ⟨p, c, rfl, hcp, hk1⟩
  have hk2 := (Keep.refl (fun _ => False) w1).alloc (.cells #[.int .i64 1, .slice p 2 c] 24)
  have HB := hid (heap_alloc_new w1 (.cells #[.int .i64 1, .slice p 2 c] 24))
  have HC0 := hid (CP.mono (CP.low hcp (Low.keep0 hk2)) hk2.size)
  have HK0 := hid (hk1.trans hk2)
  clear hcp hk1 hk2
  go_upto_region 2 with fail
  generalize w1.alloc (.cells #[.int .i64 1, .slice p 2 c] 24) = w2 at *
  generalize w1.heap.size = sb at *
  have HCA : Hid (∀ wy, Keep (fun _ => False) w2 wy → CP wy wy.heap.size p TWO) := hid (fun wy hk => CP.mono (CP.low HC0.out (Low.keep0 hk)) hk.size)
  have HSA : Hid (∀ wy, Keep (fun _ => False) w2 wy → wy.cell? ⟨sb, 0, none⟩ = some (.int .i64 1) ∧ wy.cell? ⟨sb, 1, none⟩ = some (.slice p 2 c)) := hid (fun wy hk => ⟨cell_of (hk.get HB.out (fun h => h)) (by rfl), cell_of (hk.get HB.out (fun h => h)) (by rfl)⟩)
  obtain ⟨s0, s1⟩ := HSA.out _ (Keep.refl _ _)
  go_wp2_with fail
  refine (tw_find HC0.out).mono ?_
  rintro r w3 ⟨fq, fz, rfl, hk3⟩
  have hk4 := hk3.alloc (.cells #[.int .i64 3, .string nTag, .slice fq 0 fz] 34)
  have HCB := hid (heap_alloc_new w3 (.cells #[.int .i64 3, .string nTag, .slice fq 0 fz] 34))
  have HK4 := hid hk4
  clear hk3 hk4 s0 s1
  go_upto_region 3 with fail
  generalize w3.alloc (.cells #[.int .i64 3, .string nTag, .slice fq 0 fz] 34) = w4 at *
  generalize w3.heap.size = tb at *
  obtain ⟨s0, s1⟩ := HSA.out _ HK4.out
  go_wp2_with fail
  refine (tw_named (HCA.out _ HK4.out)).mono ?_
  rintro r w5 ⟨rfl, hk5⟩
  have hk6 := (HK4.out.trans hk5).alloc (.cells #[.int .i64 0, .string ⟨#[]⟩, .slice none 0 0] 34)
  have HCB6 := hid (((Keep.refl (fun _ => False) w5).alloc (.cells #[.int .i64 0, .string ⟨#[]⟩, .slice none 0 0] 34)).get (hk5.get HCB.out (fun h => h)) (fun h => h))
  have HK6 := hid hk6
  clear hk5 hk6 s0 s1
  go_upto_region 4 with fail
  generalize w5.alloc (.cells #[.int .i64 0, .string ⟨#[]⟩, .slice none 0 0] 34) = w6 at *
  obtain ⟨s0, s1⟩ := HSA.out _ HK6.out
  obtain ⟨pb, po, q0, z0, hpe, hpb, c0, c1, c2, _, hff⟩ := CP.at (HCA.out _ HK6.out) (i := 0) (c := ⟨1, nPos, [⟨nX, 3, 1⟩, ⟨nY, 3, 1⟩]⟩) rfl
  subst hpe
  have c0' : w6.cell? ⟨pb, po, none⟩ = some (.int .i64 1) := by simpa using c0
  have c1' : w6.cell? ⟨pb, po + 1, none⟩ = some (.string nPos) := by simpa using c1
  have c2' : w6.cell? ⟨pb, po + 2, none⟩ = some (.slice q0 2 z0) := by simpa using c2
  have HFF := hid hff
  clear c0 c1 c2 hff
  go_wp2_with fail
  refine (tw_field HFF.out).mono ?_
  rintro r w7 ⟨rfl, hk7⟩
  have HK7 := hid (HK6.out.trans hk7); have HCB7 := hid (hk7.get HCB6.out (fun h => h))
  clear hk7 s0 s1 c0' c1' c2'
  obtain ⟨s0, s1⟩ := HSA.out _ HK7.out
  go_wp2_with fail
  refine (tw_ids (HCA.out _ HK7.out)).mono ?_
  rintro r w8 ⟨ig, iz, rfl, hic, hk8⟩
  have HK8 := hid (HK7.out.trans hk8); have HCB8 := hid (hk8.get HCB7.out (fun h => h))
  have HIC := hid hic
  clear hk8 s0 s1 hic
  go_wp2_with fail
  have HC : Hid (∀ wy, Keep (fun _ => False) w8.drew wy → CP wy wy.heap.size (some ⟨pb, po, none⟩) TWO) := hid (fun wy hk => HCA.out _ (HK8.out.drew.trans hk))
  have HW : Hid (∀ wy, Keep (fun _ => False) w8.drew wy → wy.cell? ⟨sb, 0, none⟩ = some (.int .i64 1) ∧ wy.cell? ⟨sb, 1, none⟩ = some (.slice (some ⟨pb, po, none⟩) 2 c) ∧ wy.cell? ⟨tb, 1, none⟩ = some (.string nTag) ∧ wy.cell? ⟨ig, 1, none⟩ = some (.int .i64 3)) := hid (fun wy hk =>
    ⟨(HSA.out _ (HK8.out.drew.trans hk)).1, (HSA.out _ (HK8.out.drew.trans hk)).2, cell_of (hk.get HCB8.out (fun h => h)) (by rfl), ((Low.keep0 hk).cell (o := 1) (World.block_lt_of_cell? w8 _ HIC.out)).trans HIC.out⟩)
  have HK := hid (HK0.out.trans HK8.out.drew)
  have hK := Keep.refl (fun _ => False) w8.drew
  clear HC0 HCA HSA HK0 HK4 HK6 HK7 HK8 HCB HCB6 HCB7 HCB8 HB HFF HIC hpb
  obtain ⟨s0, s1, s2, s3⟩ := HW.out _ hK
  simp only [List.append]
  refine Plan.wp_region_pl3 ((false, 0, []) :: (true, 1, []) :: (false, 2, []) :: (false, 3, []) :: (false, 4, []) :: (false, 5, []) :: (false, 6, []) :: (false, 7, []) :: (false, 8, []) :: (false, 9, []) :: (false, 10, []) :: (false, 11, []) :: (false, 12, []) :: (false, 13, []) :: (false, 14, []) :: (false, 15, []) :: (false, 16, []) :: (false, 17, []) :: (false, 18, []) :: (false, 19, []) :: (false, 20, []) :: (false, 21, []) :: (false, 22, []) :: (true, 23, []) :: (false, 24, []) :: (false, 25, []) :: (true, 26, []) :: (false, 27, []) :: (false, 28, []) :: (false, 29, []) :: (false, 30, []) :: (false, 31, []) :: (true, 32, []) :: (false, 33, []) :: (false, 34, []) :: (false, 35, []) :: (false, 36, []) :: (true, 37, [36]) :: (true, 38, [36]) :: (true, 39, [36]) :: (false, 40, []) :: (true, 41, []) :: (false, 42, []) :: (false, 43, []) :: (false, 44, []) :: (false, 45, []) :: (false, 46, []) :: (false, 47, []) :: (true, 48, [45]) :: (true, 49, []) :: (false, 50, []) :: (false, 51, []) :: (false, 52, []) :: (false, 53, []) :: (false, 54, []) :: (false, 55, []) :: (false, 56, []) :: (false, 57, []) :: (false, 58, []) :: (false, 59, []) :: (false, 60, []) :: (false, 61, []) :: (false, 62, []) :: (false, 63, []) :: (false, 64, []) :: (false, 65, []) :: (true, 66, [64]) :: (true, 67, []) :: (false, 68, []) :: (false, 69, []) :: []) (by as_aux_lemma => kernel_rfl) (by as_aux_lemma => kernel_rfl) ?_
  iterate 1 (refine Plan.pl_st rfl ?_; go_big_quiet_step (fail); refine wpQuiet_nil ?_)
  as_aux_lemma =>
   refine Plan.pl_ac rfl ?_
   go_wp2_with fail
   refine (tw_check (HC.out _ hK)).mono ?_
   rintro r y1 ⟨rfl, hk1⟩
   replace hK := hK.trans hk1
   clear hk1 s0 s1 s2 s3
   obtain ⟨s0, s1, s2, s3⟩ := HW.out _ hK
   go_wp2
   refine Plan.plQ_mk ?_ ?_
   · exact Plan.chk_end
   iterate 21 (refine Plan.pl_st rfl ?_; go_big_quiet_step (fail); refine wpQuiet_nil ?_)
   as_aux_lemma =>
    refine Plan.pl_ac rfl ?_
    go_wp2_with fail
    refine (is_name ⟨#[97, 57]⟩ _).mono ?_
    rintro r w_ ⟨rfl, rfl⟩
    rw [two_a9]
    go_wp2
    refine Plan.plQ_mk ?_ ?_
    · exact Plan.chk_end
    iterate 2 (refine Plan.pl_st rfl ?_; go_big_quiet_step (fail); refine wpQuiet_nil ?_)
    as_aux_lemma =>
     refine Plan.pl_ac rfl ?_
     go_wp2_with fail
     refine (is_name ⟨#[57, 97]⟩ _).mono ?_
     rintro r w_ ⟨rfl, rfl⟩
     rw [two_9a]
     go_wp2
     refine Plan.plQ_mk ?_ ?_
     · exact Plan.chk_end
     iterate 5 (refine Plan.pl_st rfl ?_; go_big_quiet_step (fail); refine wpQuiet_nil ?_)
     as_aux_lemma =>
      refine Plan.pl_ac rfl ?_
      go_wp2_with fail
      refine (tw_part (HC.out _ hK)).mono ?_
      rintro r y4 ⟨rfl, hk4⟩
      replace hK := hK.trans hk4
      clear hk4 s0 s1 s2 s3
      obtain ⟨s0, s1, s2, s3⟩ := HW.out _ hK
      go_wp2
      refine Plan.plQ_mk ?_ ?_
      · exact Plan.chk_end
      iterate 4 (refine Plan.pl_st rfl ?_; go_big_quiet_step (fail); refine wpQuiet_nil ?_)
      as_aux_lemma =>
       refine Plan.pl_ac rfl ?_
       go_wp2_with fail
       refine (w_of_1 _).mono ?_
       rintro r y5 ⟨rfl, hk5⟩
       replace hK := hK.trans hk5
       clear hk5 s0 s1 s2 s3
       obtain ⟨s0, s1, s2, s3⟩ := HW.out _ hK
       go_wp2
       refine Plan.plQ_mk ?_ ?_
       · iterate 1 (refine Plan.chk_st rfl ?_ ?_; focus (go_big_quiet_step (fail); exact wpQuiet_nil rfl))
         exact Plan.chk_end
       skip
       as_aux_lemma =>
        refine Plan.pl_ac rfl ?_
        go_wp2_with fail
        refine (w_of_2 _).mono ?_
        rintro r y6 ⟨rfl, hk6⟩
        replace hK := hK.trans hk6
        clear hk6 s0 s1 s2 s3
        obtain ⟨s0, s1, s2, s3⟩ := HW.out _ hK
        go_wp2
        refine Plan.plQ_mk ?_ ?_
        · iterate 1 (refine Plan.chk_st rfl ?_ ?_; focus (go_big_quiet_step (fail); exact wpQuiet_nil rfl))
          exact Plan.chk_end
        skip
        as_aux_lemma =>
         have HX := hid (heap_alloc_new y6 (.cells #[.bool false, .int .u64 0, .int .u64 1, .bool false, .int .u64 0, .int .u64 32768] 63))
         have hk7 := (Keep.refl (fun _ => False) y6).alloc (.cells #[.bool false, .int .u64 0, .int .u64 1, .bool false, .int .u64 0, .int .u64 32768] 63)
         have HS := hid (lt_of_heap HX.out)
         replace hK := hK.trans hk7
         clear hk7 s0 s1 s2 s3
         obtain ⟨s0, s1, s2, s3⟩ := HW.out _ hK
         refine Plan.pl_run rfl (by kernel_rfl) (build_ints _ _ rfl rfl) (fun a' ha => ?_)
         simp only [Act.put, List.setIfInBounds_toArray, List.set_cons_succ, List.set_cons_zero] at ha
         subst ha
         generalize y6.alloc (.cells #[.bool false, .int .u64 0, .int .u64 1, .bool false, .int .u64 0, .int .u64 32768] 63) = y7 at *
         generalize y6.heap.size = xb at *
         refine Plan.plQ_mk ?_ ?_
         · iterate 1 (refine Plan.chk_st rfl ?_ ?_; focus (go_big_quiet_step (fail); exact wpQuiet_nil rfl))
           exact Plan.chk_end
         iterate 1 (refine Plan.pl_st rfl ?_; go_big_quiet_step (fail); refine wpQuiet_nil ?_)
         as_aux_lemma =>
          refine Plan.pl_ac rfl ?_
          go_wp2_with fail
          refine (tw_part2 (HC.out _ hK) (by decide) (.inr ⟨xb, 0, rfl, HS.out, fun i x hx => match i, hx with | 0, hx => by injection hx with hx; subst hx; exact ⟨cell_of HX.out (by rfl), cell_of HX.out (by rfl), cell_of HX.out (by rfl)⟩ | 1, hx => by injection hx with hx; subst hx; exact ⟨cell_of HX.out (by rfl), cell_of HX.out (by rfl), cell_of HX.out (by rfl)⟩ | _ + 2, hx => by simp at hx⟩)).mono ?_
          rintro r y8 ⟨rfl, hk8⟩
          replace hK := hK.trans hk8
          clear hk8 s0 s1 s2 s3
          obtain ⟨s0, s1, s2, s3⟩ := HW.out _ hK
          go_wp2
          refine Plan.plQ_mk ?_ ?_
          · exact Plan.chk_end
          iterate 6 (refine Plan.pl_st rfl ?_; go_big_quiet_step (fail); refine wpQuiet_nil ?_)
          as_aux_lemma =>
           have HY := hid (heap_alloc_new y8 (.cells #[.int .i64 3, .slice none 0 0, .int .i64 3, .slice none 0 0] 50))
           have hk9 := (Keep.refl (fun _ => False) y8).alloc (.cells #[.int .i64 3, .slice none 0 0, .int .i64 3, .slice none 0 0] 50)
           have HS9 := hid (lt_of_heap HY.out)
           replace hK := hK.trans hk9
           clear hk9 s0 s1 s2 s3
           obtain ⟨s0, s1, s2, s3⟩ := HW.out _ hK
           refine Plan.pl_run rfl (by kernel_rfl) (build_parts _ _ rfl rfl) (fun a' ha => ?_)
           simp only [Act.put, List.setIfInBounds_toArray, List.set_cons_succ, List.set_cons_zero] at ha
           subst ha
           generalize y8.alloc (.cells #[.int .i64 3, .slice none 0 0, .int .i64 3, .slice none 0 0] 50) = y9 at *
           generalize y8.heap.size = xp at *
           refine Plan.plQ_mk ?_ ?_
           · iterate 1 (refine Plan.chk_st rfl ?_ ?_; focus (go_big_quiet_step (fail); exact wpQuiet_nil rfl))
             exact Plan.chk_end
           skip
           as_aux_lemma =>
            refine Plan.pl_ac rfl ?_
            go_wp2_with fail
            refine (tw_parts (HC.out _ hK) (by decide) (.inr ⟨xp, 0, rfl, HS9.out, fun i x hx => match i, hx with | 0, hx => by injection hx with hx; subst hx; exact ⟨cell_of HY.out (by rfl), none, 0, cell_of HY.out (by rfl), by decide, .inl rfl⟩ | 1, hx => by injection hx with hx; subst hx; exact ⟨cell_of HY.out (by rfl), none, 0, cell_of HY.out (by rfl), by decide, .inl rfl⟩ | _ + 2, hx => by simp at hx⟩)).mono ?_
            rintro r y10 ⟨rfl, hk10⟩
            replace hK := hK.trans hk10
            clear hk10 s0 s1 s2 s3
            obtain ⟨s0, s1, s2, s3⟩ := HW.out _ hK
            go_wp2
            refine Plan.plQ_mk ?_ ?_
            · exact Plan.chk_end
            iterate 16 (refine Plan.pl_st rfl ?_; go_big_quiet_step (fail); refine wpQuiet_nil ?_)
            as_aux_lemma =>
             refine Plan.pl_ac rfl ?_
             go_wp2_with fail
             refine (tw_clone (HC.out _ hK)).mono ?_
             rintro r y11 ⟨cq, cz, rfl, hcc, hk11⟩
             have HCC := hid hcc
             clear hcc
             replace hK := hK.trans hk11
             clear hk11 s0 s1 s2 s3
             obtain ⟨s0, s1, s2, s3⟩ := HW.out _ hK
             go_wp2
             refine Plan.plQ_mk ?_ ?_
             · iterate 1 (refine Plan.chk_st rfl ?_ ?_; focus (go_big_quiet_step (fail); exact wpQuiet_nil rfl))
               exact Plan.chk_end
             skip
             as_aux_lemma =>
              refine Plan.pl_ac rfl ?_
              go_wp2_with fail
              refine (tw_same (HC.out _ hK) HCC.out).mono ?_
              rintro r y12 ⟨rfl, hk12⟩
              replace hK := hK.trans hk12
              clear hk12 s0 s1 s2 s3
              obtain ⟨s0, s1, s2, s3⟩ := HW.out _ hK
              go_wp2
              refine Plan.plQ_mk ?_ ?_
              · exact Plan.chk_end
              iterate 2 (refine Plan.pl_st rfl ?_; go_big_quiet_step (fail); refine wpQuiet_nil ?_)
              refine Plan.pl_end ?_
              go_wp2
              go_ret
              exact ⟨rfl, HK.out.trans hK⟩

end Go.Proofs.Ythpafpgillnimaa
