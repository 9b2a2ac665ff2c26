/- What is proved: what retyped and common of the diff answer. -/
import Derived.Test.YtdekdefjfaoclaaDoorDif1
namespace Go.Proofs.YtdekdefjfaoclaaDoor
open Go.RowKit Go.Proofs.Heap Go.Proofs.Sch

theorem retyL_next {fs : List Fld} (gs : List Fld) (id : Int) {k : Nat} {f : Fld} (h : fs[k]? = some f) : retyL (fs.take (k + 1)) gs id = retyL (fs.take k) gs id ++ (if retB gs f = true then [⟨6, id, f.name⟩] else []) := filt_next _ _ h
theorem retyL_le (fs gs : List Fld) (id : Int) (k : Nat) : (retyL (fs.take k) gs id).length ≤ k := filt_le _ _ _ _
theorem comL_next {fs : List Fld} (gs : List Fld) {k : Nat} {f : Fld} (h : fs[k]? = some f) : comL (fs.take (k + 1)) gs = comL (fs.take k) gs ++ (if hasF gs f.name = true then [f.name] else []) := filt_next _ _ h
theorem comL_le (fs gs : List Fld) (k : Nat) : (comL (fs.take k) gs).length ≤ k := filt_le _ _ _ _
theorem has_at {gs : List Fld} {s : ByteArray} (h : hasF gs s = true) : ∃ (n : Nat) (g : Fld), nameI gs s = (n : Int) ∧ gs[n]? = some g ∧ g.name = s ∧ n < gs.length := by
  have h0 : 0 ≤ nameI gs s := of_decide_eq_true h
  rcases idx_cases (fun f : Fld => decide (f.name = s)) gs with e | ⟨k, g, h1, h2, h3, h4⟩
  · unfold nameI at h0; omega
  · exact ⟨k, g, h1, h2, of_decide_eq_true h3, h4⟩
theorem retB_no {gs : List Fld} {f : Fld} (h : hasF gs f.name = false) : retB gs f = false := by
  unfold retB
  split
  · rw [h]; rfl
  · rfl
theorem retB_yes {gs : List Fld} {f g : Fld} {n : Nat} (h : hasF gs f.name = true) (h1 : nameI gs f.name = (n : Int)) (h2 : gs[n]? = some g) : retB gs f = !decide (g = f) := by
  unfold retB
  rw [h1, Int.toNat_natCast, h2, h]
  rfl

set_option maxRecDepth 20000 in
set_option maxHeartbeats 4000000 in
theorem dif_common (a b : Cmp) (p : Option Addr) (cap : Nat) (p2 : Option Addr) (cap2 : Nat) (w : World) (hl : a.fs.length ≤ 65536) (hl2 : b.fs.length ≤ 65536) (hf : FP w w.heap.size p a.fs) (hf2 : FP w w.heap.size p2 b.fs) :
    Calls Tryd.prog 37 #[.agg #[.int .i64 a.id, .string a.name, .slice p a.fs.length cap], .agg #[.int .i64 b.id, .string b.name, .slice p2 b.fs.length cap2]] w fun r w' => ∃ v, r = .returned v ∧
      w'.ownsRow w.heap.size 9 1 v (comL a.fs b.fs).length ((comL a.fs b.fs).map Value.string) ∧ Keep (fun _ => False) w w' := by
  obtain ⟨i0, hi0, hz0, hz1, hz2⟩ := info_parts' info_str
  obtain ⟨ai, an, fs⟩ := a
  obtain ⟨bi, bn, gs⟩ := b
  simp only at hl hl2 hf hf2
  obtain ⟨w3, hw3, hb1, hb2, hs3, hk3⟩ := box2 w #[.int .i64 ai, .string an, .slice p fs.length cap] #[.int .i64 bi, .string bn, .slice p2 gs.length cap2] 46 46
  have HK := hid hk3
  have HD : Hid (∀ wy, Keep (fun _ => False) w3 wy → FP wy wy.heap.size p fs ∧ FP wy wy.heap.size p2 gs) := hid (fun wy hk =>
    ⟨FP.mono (FP.low hf (Low.keep0 (hk3.trans hk))) (hk3.trans hk).size, FP.mono (FP.low hf2 (Low.keep0 (hk3.trans hk))) (hk3.trans hk).size⟩)
  have HS3 := hid hk3.size
  clear hf hf2 hk3 hs3
  go_enter Tryd.func37, Tryd.ntmps37
  go_upto_region 2 with fail
  rw [← hw3]
  clear hw3
  generalize hsb : w.heap.size = sb at *
  have HW : Hid (∀ wy, Keep (fun _ => False) w3 wy → (wy.cell? ⟨sb, 0, none⟩ = some (.int .i64 ai) ∧ wy.cell? ⟨sb, 2, none⟩ = some (.slice p fs.length cap)) ∧ (wy.cell? ⟨sb + 1, 0, none⟩ = some (.int .i64 bi) ∧ wy.cell? ⟨sb + 1, 1, none⟩ = some (.string bn) ∧ wy.cell? ⟨sb + 1, 2, none⟩ = some (.slice p2 gs.length cap2))) := hid (fun wy hk =>
    ⟨⟨cell_of (hk.get hb1 id) (by rfl), cell_of (hk.get hb1 id) (by rfl)⟩, cell_of (hk.get hb2 id) (by rfl), cell_of (hk.get hb2 id) (by rfl), cell_of (hk.get hb2 id) (by rfl)⟩)
  clear hb1 hb2
  obtain ⟨⟨s0, s2⟩, s3, s4, s5⟩ := HW.out _ (Keep.refl _ w3)
  go_wp2_with fail
  clear s0 s2 s3 s4 s5
  go_loopw [5, 7, 8, 9, 13] (fun v _ _ _ i wr => ∃ k : Nat, k ≤ fs.length ∧ i = iV k ∧ wr.ownsRow w3.heap.size 9 1 v (comL (fs.take k) gs).length ((comL (fs.take k) gs).map Value.string) ∧ Keep (fun _ => False) w3 wr) (fun _ _ _ _ i _ => fs.length + 1 - (intOf i).toNat)
  case atStart => exact ⟨0, Nat.zero_le _, rfl, World.ownsRow_nil _ _ _ _, Keep.refl _ _⟩
  case round =>
    obtain ⟨k, hk, rfl, how, hkr⟩ := hrel
    obtain ⟨vp, vc, rfl⟩ := owns_val how
    have HO := hid how; have HKR := hid hkr
    clear how hkr
    by_cases hlt : k < fs.length
    · obtain ⟨x, hxk⟩ : ∃ x, fs[k]? = some x := ⟨fs[k], by simp [hlt]⟩
      have HNX := hid (comL_next gs hxk)
      have HLE := hid (comL_le fs gs k)
      obtain ⟨b, off, rfl, hb, c0, c1, c2⟩ := FP.at (HD.out _ HKR.out).1 hxk
      have hin : (0 : Int) ≤ (k : Int) ∧ (k : Int) < (fs.length : Int) := ⟨by omega, by omega⟩
      clear hxk hb
      obtain ⟨fn, fk, fc⟩ := x
      simp only at c0 c1 c2
      obtain ⟨w4, hw4, hc4, hs4, hk4⟩ := box1 wr #[.string fn, .int .i64 fk, .int .i64 fc] 53
      have HK4 := hid (HKR.out.trans hk4)
      have HO4 := hid (owns_keep HO.out (fun q hq => hk4.block q (HO.out.lt q hq).2 id))
      have HC4 := hid hc4
      clear hk4 hs4 hc4
      go_upto_region 5 with fail
      rw [← hw4]
      clear hw4 c0 c1 c2
      generalize wr.heap.size = fb at *
      have f0 : w4.cell? ⟨fb, 0, none⟩ = some (.string fn) := cell_of HC4.out (by rfl)
      obtain ⟨_, s3, s4, s5⟩ := HW.out _ HK4.out
      go_wp2_with fail
      refine (field_named2 ⟨bi, bn, gs⟩ fn p2 cap2 _ (by simp only; omega) (HD.out _ HK4.out).2).mono ?_
      rintro r w5 ⟨rfl, hk5⟩
      have HK5 := hid (HK4.out.trans hk5)
      have HO5 := hid (owns_keep HO4.out (fun q hq => hk5.block q (HO4.out.lt q hq).2 id))
      have HC5 := hid (hk5.get HC4.out id)
      clear hk5 f0 s3 s4 s5
      have f0 : w5.cell? ⟨fb, 0, none⟩ = some (.string fn) := cell_of HC5.out (by rfl)
      have HSZ := hid HK5.out.size
      cases hq : hasF gs fn
      · have G : Hid (comL (fs.take (k + 1)) gs = comL (fs.take k) gs) := hid (by rw [HNX.out, if_neg (by simp [hq]), List.append_nil])
        clear hq
        go_wp2
        go_roundw
        case rel => exact ⟨k + 1, by omega, by go_num, by rw [G.out]; exact HO5.out, HK5.out⟩
        case measure => simp [intOf]; omega
      · have G : Hid (comL (fs.take (k + 1)) gs = comL (fs.take k) gs ++ [fn]) := hid (by rw [HNX.out, if_pos (by simp [hq])])
        clear hq
        generalize comL (fs.take k) gs = us at *
        go_wp2_with (at_builtin; go_loud (refine wpList_append_rd rfl (.tmp 25) (.tmp 28) _ rfl w3.heap.size _ i0 _ 1 16 Tryd.underlying32 hi0 hz0 hz1 hz2 rfl (by decide) _ us.length _ (by rfl) (HO5.out.alloc _) _ 1 _ (by rfl) (rd_block (heap_alloc_new w5 _) (by simp) (by simp [Value.oneCell'])) (by unfold maxLen; have := HLE.out; omega) (by have := HLE.out; omega) (by have := HSZ.out; simp; omega) ?_); go_loud (intro v' w6 hown6 hgrow6 hat6 hn6; obtain ⟨vq, vd, rfl⟩ := owns_val hown6; have HO6 := hid hown6; have HK6 := hid ((HK5.out.alloc _).grown hgrow6 (fun k hk => .inl (HO5.out.lt k hk).1)); clear hown6 hgrow6 hat6 hn6))
        go_wp2
        go_roundw
        case rel => exact ⟨k + 1, by omega, by go_num, by rw [G.out]; have h := HO6.out; simpa [] using h, HK6.out⟩
        case measure => simp [intOf]; omega
    · obtain rfl : k = fs.length := by omega
      have g0 : decide ((fs.length : Int) < (fs.length : Int)) = false := decide_eq_false (by omega)
      rw [List.take_length] at *
      go_wp2
      go_ret
      exact ⟨_, rfl, owns_mono HO.out (by have := HS3.out; omega), HK.out.trans HKR.out⟩

set_option maxRecDepth 20000 in
set_option maxHeartbeats 4000000 in
theorem dif_retyped (a b : Cmp) (p : Option Addr) (cap : Nat) (p2 : Option Addr) (cap2 : Nat) (w : World) (hl : a.fs.length ≤ 65536) (hl2 : b.fs.length ≤ 65536) (hf : FP w w.heap.size p a.fs) (hf2 : FP w w.heap.size p2 b.fs) :
    Calls Tryd.prog 35 #[.agg #[.int .i64 a.id, .string a.name, .slice p a.fs.length cap], .agg #[.int .i64 b.id, .string b.name, .slice p2 b.fs.length cap2]] w fun r w' => ∃ v, r = .returned v ∧
      w'.ownsRow w.heap.size 40 3 v (retyL a.fs b.fs a.id).length ((retyL a.fs b.fs a.id).flatMap ccl3) ∧ Keep (fun _ => False) w w' := by
  obtain ⟨i0, hi0, hz0, hz1, hz2⟩ := info_parts' info_chg
  obtain ⟨ai, an, fs⟩ := a
  obtain ⟨bi, bn, gs⟩ := b
  simp only at hl hl2 hf hf2
  obtain ⟨w3, hw3, hb1, hb2, hs3, hk3⟩ := box2 w #[.int .i64 ai, .string an, .slice p fs.length cap] #[.int .i64 bi, .string bn, .slice p2 gs.length cap2] 46 46
  have HK := hid hk3
  have HD : Hid (∀ wy, Keep (fun _ => False) w3 wy → FP wy wy.heap.size p fs ∧ FP wy wy.heap.size p2 gs) := hid (fun wy hk =>
    ⟨FP.mono (FP.low hf (Low.keep0 (hk3.trans hk))) (hk3.trans hk).size, FP.mono (FP.low hf2 (Low.keep0 (hk3.trans hk))) (hk3.trans hk).size⟩)
  have HS3 := hid hk3.size
  clear hf hf2 hk3 hs3
  go_enter Tryd.func35, Tryd.ntmps35
  go_upto_region 2 with fail
  rw [← hw3]
  clear hw3
  generalize hsb : w.heap.size = sb at *
  have HW : Hid (∀ wy, Keep (fun _ => False) w3 wy → (wy.cell? ⟨sb, 0, none⟩ = some (.int .i64 ai) ∧ wy.cell? ⟨sb, 2, none⟩ = some (.slice p fs.length cap)) ∧ (wy.cell? ⟨sb + 1, 0, none⟩ = some (.int .i64 bi) ∧ wy.cell? ⟨sb + 1, 1, none⟩ = some (.string bn) ∧ wy.cell? ⟨sb + 1, 2, none⟩ = some (.slice p2 gs.length cap2))) := hid (fun wy hk =>
    ⟨⟨cell_of (hk.get hb1 id) (by rfl), cell_of (hk.get hb1 id) (by rfl)⟩, cell_of (hk.get hb2 id) (by rfl), cell_of (hk.get hb2 id) (by rfl), cell_of (hk.get hb2 id) (by rfl)⟩)
  clear hb1 hb2
  obtain ⟨⟨s0, s2⟩, s3, s4, s5⟩ := HW.out _ (Keep.refl _ w3)
  go_wp2_with fail
  clear s0 s2 s3 s4 s5
  go_loopw [5, 7, 8, 9, 13] (fun v _ _ _ i wr => ∃ k : Nat, k ≤ fs.length ∧ i = iV k ∧ wr.ownsRow w3.heap.size 40 3 v (retyL (fs.take k) gs ai).length ((retyL (fs.take k) gs ai).flatMap ccl3) ∧ Keep (fun _ => False) w3 wr) (fun _ _ _ _ i _ => fs.length + 1 - (intOf i).toNat)
  case atStart => exact ⟨0, Nat.zero_le _, rfl, World.ownsRow_nil _ _ _ _, Keep.refl _ _⟩
  case round =>
    obtain ⟨k, hk, rfl, how, hkr⟩ := hrel
    obtain ⟨vp, vc, rfl⟩ := owns_val how
    have HO := hid how; have HKR := hid hkr
    clear how hkr
    by_cases hlt : k < fs.length
    · obtain ⟨x, hxk⟩ : ∃ x, fs[k]? = some x := ⟨fs[k], by simp [hlt]⟩
      have HNX := hid (retyL_next gs ai hxk)
      have HLE := hid (retyL_le fs gs ai k)
      obtain ⟨b, off, rfl, hb, c0, c1, c2⟩ := FP.at (HD.out _ HKR.out).1 hxk
      have hin : (0 : Int) ≤ (k : Int) ∧ (k : Int) < (fs.length : Int) := ⟨by omega, by omega⟩
      clear hxk hb
      obtain ⟨fn, fk, fc⟩ := x
      simp only at c0 c1 c2
      obtain ⟨w4, hw4, hc4, hs4, hk4⟩ := box1 wr #[.string fn, .int .i64 fk, .int .i64 fc] 53
      have HK4 := hid (HKR.out.trans hk4)
      have HO4 := hid (owns_keep HO.out (fun q hq => hk4.block q (HO.out.lt q hq).2 id))
      have HC4 := hid hc4
      clear hk4 hs4 hc4
      go_upto_region 5 with fail
      rw [← hw4]
      clear hw4 c0 c1 c2
      generalize wr.heap.size = fb at *
      have f0 : w4.cell? ⟨fb, 0, none⟩ = some (.string fn) := cell_of HC4.out (by rfl)
      obtain ⟨_, s3, s4, s5⟩ := HW.out _ HK4.out
      go_wp2_with fail
      refine (field_named2 ⟨bi, bn, gs⟩ fn p2 cap2 _ (by simp only; omega) (HD.out _ HK4.out).2).mono ?_
      rintro r w5 ⟨rfl, hk5⟩
      have HK5 := hid (HK4.out.trans hk5)
      have HO5 := hid (owns_keep HO4.out (fun q hq => hk5.block q (HO4.out.lt q hq).2 id))
      have HC5 := hid (hk5.get HC4.out id)
      clear hk5 f0 s3 s4 s5
      have HKD := hid HK5.out.drew
      have HOD : Hid (w5.drew.ownsRow w3.heap.size 40 3 (.slice vp (retyL (fs.take k) gs ai).length vc) (retyL (fs.take k) gs ai).length ((retyL (fs.take k) gs ai).flatMap ccl3)) := hid (owns_keep HO5.out (fun _ _ => rfl))
      have HCD : Hid (w5.drew.heap[fb]? = some (.cells #[.string fn, .int .i64 fk, .int .i64 fc] 53 (0, 0))) := hid HC5.out
      have HSZ := hid HKD.out.size
      have f0 : w5.drew.cell? ⟨fb, 0, none⟩ = some (.string fn) := cell_of HCD.out (by rfl)
      have f1 : w5.drew.cell? ⟨fb, 1, none⟩ = some (.int .i64 fk) := cell_of HCD.out (by rfl)
      have f2 : w5.drew.cell? ⟨fb, 2, none⟩ = some (.int .i64 fc) := cell_of HCD.out (by rfl)
      obtain ⟨⟨s0, _⟩, s3, s4, s5⟩ := HW.out _ HKD.out
      cases hq : hasF gs fn
      · have HB := hid (retB_no (f := ⟨fn, fk, fc⟩) hq)
        have G : Hid (retyL (fs.take (k + 1)) gs ai = retyL (fs.take k) gs ai) := hid (by rw [HNX.out, if_neg (by rw [HB.out]; simp), List.append_nil])
        clear hq
        go_wp2_with fail
        refine Plan.wp_region_pl [(false, 0, []), (false, 1, []), (false, 2, []), (false, 3, []), (false, 4, []), (false, 5, []), (false, 6, []), (false, 7, []), (false, 8, []), (false, 9, [])] (by kernel_rfl) (by kernel_rfl) ?_
        iterate 10 (refine Plan.pl_st rfl ?_; go_big_quiet_step (fail); refine wpQuiet_nil ?_)
        refine Plan.pl_end ?_
        go_wp2
        go_roundw
        case rel => exact ⟨k + 1, by omega, by go_num, by rw [G.out]; exact HOD.out, HKD.out⟩
        case measure => simp [intOf]; omega
      · obtain ⟨n, g, hn1, hn2, hn3, hn4⟩ := has_at hq
        have HB := hid (retB_yes (f := ⟨fn, fk, fc⟩) hq hn1 hn2)
        rw [hn1, Int.toNat_natCast]
        obtain ⟨gn, gk, gc⟩ := g
        simp only at hn3
        subst hn3
        obtain ⟨b2, off2, rfl, hb2, e0, e1, e2⟩ := FP.at (HD.out _ HKD.out).2 hn2
        simp only at e0 e1 e2
        have hin2 : (0 : Int) ≤ (n : Int) ∧ (n : Int) < (gs.length : Int) := ⟨by omega, by omega⟩
        clear hn1 hn2 hq hb2
        by_cases hkk : gk = fk
        rotate_left
        · replace HB := hid (HB.out.trans (by rw [decide_eq_false (fun e => hkk (by injection e))]; rfl : _ = true))
          have G : Hid (retyL (fs.take (k + 1)) gs ai = retyL (fs.take k) gs ai ++ [⟨6, ai, gn⟩]) := hid (by rw [HNX.out, if_pos HB.out])
          go_wp2_with fail
          refine Plan.wp_region_pl [(false, 0, []), (false, 1, []), (false, 2, []), (false, 3, []), (false, 4, []), (false, 5, []), (false, 6, []), (false, 7, []), (false, 8, []), (false, 9, [])] (by kernel_rfl) (by kernel_rfl) ?_
          iterate 10 (refine Plan.pl_st rfl ?_; go_big_quiet_step (fail); refine wpQuiet_nil ?_)
          refine Plan.pl_end ?_
          generalize retyL (fs.take k) gs ai = us at *
          generalize w5.drew = wd at *
          go_wp2_with (at_builtin; go_loud (refine wpList_append_rd rfl (.tmp 34) (.tmp 40) _ rfl w3.heap.size _ i0 _ 3 32 Tryd.underlying28 hi0 hz0 hz1 hz2 rfl (by decide) _ us.length _ (by rfl) (HOD.out.alloc _) _ 1 _ (by rfl) (rd_block (heap_alloc_new wd _) (by simp) (by simp [Value.oneCell'])) (by unfold maxLen; have := HLE.out; omega) (by have := HLE.out; omega) (by have := HSZ.out; simp; omega) ?_); go_loud (intro v' w6 hown6 hgrow6 hat6 hn6; obtain ⟨vq, vd, rfl⟩ := owns_val hown6; have HO6 := hid hown6; have HK6 := hid ((HKD.out.alloc _).grown hgrow6 (fun k hk => .inl (HOD.out.lt k hk).1)); clear hown6 hgrow6 hat6 hn6))
          go_wp2
          go_roundw
          case rel => exact ⟨k + 1, by omega, by go_num, by rw [G.out]; have h := HO6.out; simpa [ccl3] using h, HK6.out⟩
          case measure => simp [intOf]; omega
        subst hkk
        by_cases hcc : gc = fc
        rotate_left
        · replace HB := hid (HB.out.trans (by rw [decide_eq_false (fun e => hcc (by injection e))]; rfl : _ = true))
          have G : Hid (retyL (fs.take (k + 1)) gs ai = retyL (fs.take k) gs ai ++ [⟨6, ai, gn⟩]) := hid (by rw [HNX.out, if_pos HB.out])
          go_wp2_with fail
          refine Plan.wp_region_pl [(false, 0, []), (false, 1, []), (false, 2, []), (false, 3, []), (false, 4, []), (false, 5, []), (false, 6, []), (false, 7, []), (false, 8, []), (false, 9, [])] (by kernel_rfl) (by kernel_rfl) ?_
          iterate 10 (refine Plan.pl_st rfl ?_; go_big_quiet_step (fail); refine wpQuiet_nil ?_)
          refine Plan.pl_end ?_
          generalize retyL (fs.take k) gs ai = us at *
          generalize w5.drew = wd at *
          go_wp2_with (at_builtin; go_loud (refine wpList_append_rd rfl (.tmp 34) (.tmp 40) _ rfl w3.heap.size _ i0 _ 3 32 Tryd.underlying28 hi0 hz0 hz1 hz2 rfl (by decide) _ us.length _ (by rfl) (HOD.out.alloc _) _ 1 _ (by rfl) (rd_block (heap_alloc_new wd _) (by simp) (by simp [Value.oneCell'])) (by unfold maxLen; have := HLE.out; omega) (by have := HLE.out; omega) (by have := HSZ.out; simp; omega) ?_); go_loud (intro v' w6 hown6 hgrow6 hat6 hn6; obtain ⟨vq, vd, rfl⟩ := owns_val hown6; have HO6 := hid hown6; have HK6 := hid ((HKD.out.alloc _).grown hgrow6 (fun k hk => .inl (HOD.out.lt k hk).1)); clear hown6 hgrow6 hat6 hn6))
          go_wp2
          go_roundw
          case rel => exact ⟨k + 1, by omega, by go_num, by rw [G.out]; have h := HO6.out; simpa [ccl3] using h, HK6.out⟩
          case measure => simp [intOf]; omega
        subst hcc
        replace HB := hid (HB.out.trans (by rw [decide_eq_true rfl]; rfl : _ = false))
        have G : Hid (retyL (fs.take (k + 1)) gs ai = retyL (fs.take k) gs ai) := hid (by rw [HNX.out, if_neg (by rw [HB.out]; simp), List.append_nil])
        go_wp2_with fail
        refine Plan.wp_region_pl [(false, 0, []), (false, 1, []), (false, 2, []), (false, 3, []), (false, 4, []), (false, 5, []), (false, 6, []), (false, 7, []), (false, 8, []), (false, 9, [])] (by kernel_rfl) (by kernel_rfl) ?_
        iterate 10 (refine Plan.pl_st rfl ?_; go_big_quiet_step (fail); refine wpQuiet_nil ?_)
        refine Plan.pl_end ?_
        go_wp2
        go_roundw
        case rel => exact ⟨k + 1, by omega, by go_num, by rw [G.out]; exact HOD.out, HKD.out⟩
        case measure => simp [intOf]; omega
    · obtain rfl : k = fs.length := by omega
      have g0 : decide ((fs.length : Int) < (fs.length : Int)) = false := decide_eq_false (by omega)
      rw [List.take_length] at *
      go_wp2
      go_ret
      exact ⟨_, rfl, owns_mono HO.out (by have := HS3.out; omega), HK.out.trans HKR.out⟩
end Go.Proofs.YtdekdefjfaoclaaDoor
