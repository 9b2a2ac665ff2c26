/- What is proved: the law DiffKept answers true, of two schemas in memory. -/
import Derived.Test.YtdekdefjfaoclaaDoorDifKeptLaw
import Derived.Test.YtdekdefjfaoclaaDoorDifAwake
namespace Go.Proofs.YtdekdefjfaoclaaDoor
open Go.RowKit Go.Proofs.Heap Go.Proofs.Sch

theorem any_next {α : Type} (q : α → Bool) {l : List α} {k : Nat} {x : α} (h : l[k]? = some x) : (l.take (k + 1)).any q = ((l.take k).any q || q x) := by
  rw [take_next h, List.any_append]
  simp
theorem diffE_good {va : Int} {ca : List Cmp} {vb : Int} {cb : List Cmp} (h : diffE va ca vb cb = 0) : GoodS va ca ∧ GoodS vb cb := by
  unfold diffE at h
  by_cases h1 : checkC va ca = 0
  · rw [if_pos h1] at h
    exact ⟨(checkC_iff _ _).1 h1, (checkC_iff _ _).1 h⟩
  · rw [if_neg h1] at h; exact absurd h h1

set_option maxRecDepth 20000 in
set_option maxHeartbeats 16000000 in
theorem kept_walk (va : Int) (ca : List Cmp) (p : Option Addr) (z : Nat) (vb : Int) (cb : List Cmp) (p2 : Option Addr) (z2 : Nat) (w : World)
    (hca : CP w w.heap.size p ca) (hcb : CP w w.heap.size p2 cb) :
    Calls Tryd.prog 5 #[.agg #[.int .i64 va, .slice p ca.length z], .agg #[.int .i64 vb, .slice p2 cb.length z2]] w
      fun e w' => e = .returned (.bool true) ∧ Keep (fun _ => False) w w' := by
  obtain ⟨w3, hw3, hb1, hb2, hs3, hk3⟩ := box2 w #[.int .i64 va, .slice p ca.length z] #[.int .i64 vb, .slice p2 cb.length z2] 24 24
  have HK := hid hk3
  have HD : Hid (∀ wy, Keep (fun _ => False) w3 wy → CP wy wy.heap.size p ca ∧ CP wy wy.heap.size p2 cb) := hid (fun wy hk =>
    ⟨CP.mono (CP.low hca (Low.keep0 (hk3.trans hk))) (hk3.trans hk).size, CP.mono (CP.low hcb (Low.keep0 (hk3.trans hk))) (hk3.trans hk).size⟩)
  clear hca hcb hk3 hs3
  go_enter Tryd.func5, Tryd.ntmps5
  go_upto_region 1 with fail
  rw [← hw3]
  clear hw3
  generalize w.heap.size = sb at *
  have HW : Hid (∀ wy, Keep (fun _ => False) w3 wy → (wy.cell? ⟨sb, 0, none⟩ = some (.int .i64 va) ∧ wy.cell? ⟨sb, 1, none⟩ = some (.slice p ca.length z)) ∧ (wy.cell? ⟨sb + 1, 0, none⟩ = some (.int .i64 vb) ∧ wy.cell? ⟨sb + 1, 1, none⟩ = some (.slice p2 cb.length z2))) := hid (fun wy hk =>
    ⟨⟨cell_of (hk.get hb1 id) (by rfl), cell_of (hk.get hb1 id) (by rfl)⟩, ⟨cell_of (hk.get hb2 id) (by rfl), cell_of (hk.get hb2 id) (by rfl)⟩⟩)
  clear hb1 hb2
  go_wp2_with fail
  refine (awake_true _).mono ?_
  rintro e w4 ⟨rfl, hk4⟩
  have HK4 := hid hk4
  obtain ⟨⟨s0, s1⟩, s2, s3⟩ := HW.out _ hk4
  clear hk4
  go_wp2_with fail
  refine (law_great9 va ca p z _ (HD.out _ HK4.out).1).mono ?_
  rintro e w5 ⟨⟨B, rfl, hB⟩, hk5⟩
  have HK5 := hid (HK4.out.trans hk5)
  have HF := hid hB
  clear hB hk5 s0 s1 s2 s3
  obtain ⟨⟨s0, s1⟩, s2, s3⟩ := HW.out _ HK5.out
  cases B
  rotate_left
  · go_wp2
    go_ret
    exact ⟨rfl, HK.out.trans HK5.out⟩
  have HA := hid (HF.out rfl)
  clear HF
  go_wp2_with fail
  refine (law_great9 vb cb p2 z2 _ (HD.out _ HK5.out).2).mono ?_
  rintro e w6 ⟨⟨B, rfl, hB⟩, hk6⟩
  have HK6 := hid (HK5.out.trans hk6)
  have HF := hid hB
  clear hB hk6 s0 s1 s2 s3
  cases B
  rotate_left
  · go_wp2
    go_ret
    exact ⟨rfl, HK.out.trans HK6.out⟩
  have HB := hid (HF.out rfl)
  clear HF
  obtain ⟨⟨s0, s1⟩, s2, s3⟩ := HW.out _ HK6.out
  go_wp2_with fail
  refine (dif_of va ca p z vb cb p2 z2 _ HA.out.mid HB.out.mid (HD.out _ HK6.out).1 (HD.out _ HK6.out).2).mono ?_
  rintro r w7 ⟨v7, rfl, ho7, hk7⟩
  obtain ⟨lp, lc, rfl⟩ := owns_val ho7
  have HK7 := hid (HK6.out.trans hk7)
  have HO7 := hid ho7
  clear ho7 hk7 s0 s1 s2 s3
  obtain ⟨⟨s0, s1⟩, s2, s3⟩ := HW.out _ HK7.out
  obtain ⟨e, he⟩ : ∃ e, diffE va ca vb cb = e := ⟨_, rfl⟩
  rw [he]
  have HE := hid he
  clear he
  go_wp2_with fail
  refine (dif_kept va ca p z vb cb p2 z2 _ HA.out.mid HB.out.mid (HD.out _ HK7.out).1 (HD.out _ HK7.out).2).mono ?_
  rintro r w8 ⟨v8, rfl, ho8, hk8⟩
  obtain ⟨ip, ic, rfl⟩ := owns_val ho8
  have HK8 := hid (HK7.out.trans hk8)
  have HL8 := hid (owns_keep HO7.out (fun q hq => hk8.block q (HO7.out.lt q hq).2 id))
  have HI8 := hid ho8
  clear ho8 hk8 s0 s1 s2 s3 HO7
  by_cases hck : e = 0
  rotate_left
  · have HZ : Hid (keptE va ca vb cb = []) := hid (if_neg (by rw [HE.out]; exact hck))
    have g1 : ((e : Int) != 0) = true := by simp only [bne, beq_eq_false_iff_ne.2 (show (e : Int) ≠ 0 by omega)]; rfl
    have g2 : (e != 0) = true := by simp only [bne, beq_eq_false_iff_ne.2 hck]; rfl
    have g3 : ((e : Int) == 0) = false := beq_eq_false_iff_ne.2 (by omega)
    have g4 : (e == 0) = false := beq_eq_false_iff_ne.2 hck
    rw [HZ.out] at HI8 ⊢
    clear hck
    go_wp2
    go_ret
    exact ⟨rfl, HK.out.trans HK8.out⟩
  subst hck
  have HG := hid (diffE_good HE.out)
  have hoe : ofE va ca vb cb = ofL ca cb := if_pos HE.out
  have hke : keptE va ca vb cb = keptL ca cb := if_pos HE.out
  rw [hoe] at HL8 ⊢
  rw [hke] at HI8 ⊢
  have HCH := hid (ofN_chg ca cb 24)
  have HUP := hid (ofN_up ca cb 24)
  have HLN := hid (kept_len HG.out.1 cb)
  have HLE : Hid ((ofL ca cb).length ≤ 24 * 262144) := hid (ofN_le HA.out.mid HB.out.mid 24)
  have HKE : Hid ((keptL ca cb).length ≤ ca.length) := hid (by have := keptL_le ca cb ca.length; rwa [List.take_length] at this)
  clear hoe hke
  obtain ⟨L, hL⟩ : ∃ L, ofL ca cb = L := ⟨_, rfl⟩
  obtain ⟨K, hK⟩ : ∃ K, keptL ca cb = K := ⟨_, rfl⟩
  have HWK : Hid (∀ x ∈ L, K.any (fun i => decide (i = x.comp)) = decide (x.kind ≠ 1 ∧ x.kind ≠ 2)) := hid (fun x hx => by
    rw [← hK]
    exact whose_kept (HCH.out x (by rw [show ofN ca cb 24 = L from hL]; exact hx)).2)
  rw [show ofN ca cb 24 = L from hL] at HUP
  rw [hL] at HL8 HLE HLN ⊢
  rw [hK] at HI8 HLN HKE ⊢
  clear hL hK HCH
  have hl1 := HLE.out
  have hl2 := HKE.out
  have hl3 := HA.out.1
  go_wp2_with fail
  have HFIN : Hid ((K.length : Int) = (ca.length : Int) - (dropN L : Int)) := hid (by have := HLN.out; omega)
  go_loopw [8, 9, 10, 11] (fun d i _ _ wr => ∃ k : Nat, k ≤ L.length ∧ d = iV (dropN (L.take k)) ∧ i = iV k ∧ Keep (fun _ => False) w8 wr) (fun _ i _ _ _ => L.length + 1 - (intOf i).toNat)
  case atStart => exact ⟨0, Nat.zero_le _, rfl, rfl, Keep.refl _ _⟩
  case round =>
    generalize wr = wo at *
    obtain ⟨k, hk, rfl, rfl, hkr⟩ := hrel
    have HKR := hid hkr
    clear hkr
    by_cases hlt : k < L.length
    · obtain ⟨x, hxk⟩ : ∃ x, L[k]? = some x := ⟨L[k], by simp [hlt]⟩
      have HNX := hid (dropN_next hxk)
      have HDL := hid (dropN_le L k)
      have HWX := hid (HWK.out x (List.mem_of_getElem? hxk))
      have HXK := hid hxk
      obtain ⟨g, rfl⟩ := owns_some HL8.out (by omega)
      have HCX : Hid (∀ wy, Keep (fun _ => False) w8 wy → wy.cell? ⟨g, k * 3, none⟩ = some (.int .i64 x.kind) ∧ wy.cell? ⟨g, k * 3 + 1, none⟩ = some (.int .i64 x.comp)) := hid (fun wy hky =>
        have hio := owns_keep HL8.out (fun q hq => hky.block q (HL8.out.lt q hq).2 id)
        ⟨owns3_cell (r := 0) ccl3_len hio hxk rfl, owns3_cell (r := 1) ccl3_len hio hxk rfl⟩)
      have hin : (0 : Int) ≤ (k : Int) ∧ (k : Int) < (L.length : Int) := ⟨by omega, by omega⟩
      clear hxk
      obtain ⟨kd, co, fl⟩ := x
      go_wp2_with fail
      go_loopw [10, 11] (fun b j wr => ∃ m : Nat, m ≤ K.length ∧ b = .bool ((K.take m).any (fun i => decide (i = co))) ∧ j = iV m ∧ Keep (fun _ => False) w8 wr) (fun _ j _ => K.length + 1 - (intOf j).toNat)
      case atStart => exact ⟨0, Nat.zero_le _, rfl, rfl, HKR.out⟩
      case round =>
        obtain ⟨m, hm, rfl, rfl, hkm⟩ := hrel
        have HKM := hid hkm.drew
        have HKM0 := hid hkm
        clear hkm
        by_cases hmt : m < K.length
        · obtain ⟨y, hym⟩ : ∃ y, K[m]? = some y := ⟨K[m], by simp [hmt]⟩
          have HNY := hid (any_next (fun i : Int => decide (i = co)) hym)
          obtain ⟨g2, rfl⟩ := owns_some HI8.out (by omega)
          have hio := owns_keep HI8.out (fun q hq => HKM.out.block q (HI8.out.lt q hq).2 id)
          have c0 : wr.drew.cell? ⟨g2, m, none⟩ = some (.int .i64 y) := (owns_cell hio hmt).trans (by rw [List.getElem?_map, hym]; rfl)
          obtain ⟨_, c1⟩ := HCX.out _ HKM.out
          have hin2 : (0 : Int) ≤ (m : Int) ∧ (m : Int) < (K.length : Int) := ⟨by omega, by omega⟩
          clear hio hym
          generalize hB : (K.take m).any (fun i => decide (i = co)) = B at *
          clear hB
          cases B
          · by_cases hyc : y = co
            · have e1 : (y == co) = true := beq_iff_eq.2 hyc
              have HN : Hid ((K.take (m + 1)).any (fun i => decide (i = co)) = true) := hid (by rw [HNY.out, decide_eq_true hyc]; rfl)
              clear hyc
              go_upto_region 17 with fail
              refine Plan.wp_region_pl [(false, 0, []), (false, 1, []), (false, 2, []), (false, 3, []), (false, 4, []), (false, 5, []), (false, 6, []), (false, 7, []), (false, 8, []), (false, 9, []), (false, 10, []), (false, 11, []), (false, 12, []), (true, 13, [])] (by kernel_rfl) (by kernel_rfl) ?_
              iterate 13 (refine Plan.pl_st rfl ?_; go_big_quiet_step (fail); refine wpQuiet_nil ?_)
              refine Plan.pl_ac rfl ?_
              go_wp2
              refine Plan.plQ_mk Plan.chk_end ?_
              refine Plan.pl_end ?_
              go_wp2
              go_roundw
              case rel => exact ⟨m + 1, by omega, by rw [HN.out], by go_num, HKM.out⟩
              case measure => simp [intOf]; omega
            · have e1 : (y == co) = false := beq_eq_false_iff_ne.2 hyc
              have HN : Hid ((K.take (m + 1)).any (fun i => decide (i = co)) = false) := hid (by rw [HNY.out, decide_eq_false hyc]; rfl)
              clear hyc
              go_upto_region 17 with fail
              refine Plan.wp_region_pl [(false, 0, []), (false, 1, []), (false, 2, []), (false, 3, []), (false, 4, []), (false, 5, []), (false, 6, []), (false, 7, []), (false, 8, []), (false, 9, []), (false, 10, []), (false, 11, []), (false, 12, []), (true, 13, [])] (by kernel_rfl) (by kernel_rfl) ?_
              iterate 13 (refine Plan.pl_st rfl ?_; go_big_quiet_step (fail); refine wpQuiet_nil ?_)
              refine Plan.pl_ac rfl ?_
              go_wp2
              refine Plan.plQ_mk Plan.chk_end ?_
              refine Plan.pl_end ?_
              go_wp2
              go_roundw
              case rel => exact ⟨m + 1, by omega, by rw [HN.out], by go_num, HKM.out⟩
              case measure => simp [intOf]; omega
          · have HN : Hid ((K.take (m + 1)).any (fun i => decide (i = co)) = true) := hid (by rw [HNY.out]; rfl)
            go_upto_region 17 with fail
            refine Plan.wp_region_pl [(false, 0, []), (false, 1, []), (false, 2, []), (false, 3, []), (false, 4, []), (false, 5, []), (false, 6, []), (false, 7, []), (false, 8, []), (false, 9, []), (false, 10, []), (false, 11, []), (false, 12, []), (true, 13, [])] (by kernel_rfl) (by kernel_rfl) ?_
            iterate 13 (refine Plan.pl_st rfl ?_; go_big_quiet_step (fail); refine wpQuiet_nil ?_)
            refine Plan.pl_ac rfl ?_
            go_wp2
            refine Plan.plQ_mk Plan.chk_end ?_
            refine Plan.pl_end ?_
            go_wp2
            go_roundw
            case rel => exact ⟨m + 1, by omega, by rw [HN.out], by go_num, HKM.out⟩
            case measure => simp [intOf]; omega
        · obtain rfl : m = K.length := by omega
          have g0 : decide ((K.length : Int) < (K.length : Int)) = false := decide_eq_false (by omega)
          rw [List.take_length, HWX.out]
          obtain ⟨c0, c1⟩ := HCX.out _ HKM.out
          obtain ⟨d0, d1⟩ := HCX.out _ HKM0.out
          have hprev : Hid (∀ q : Nat, q + 1 = k → ∃ c', (∀ wy, Keep (fun _ => False) w8 wy → wy.cell? ⟨g, q * 3 + 1, none⟩ = some (.int .i64 c')) ∧ c' ≤ co) := hid (fun q hq => by
            subst hq
            obtain ⟨x', hx'⟩ : ∃ x', L[q]? = some x' := ⟨L[q], by simp [show q < L.length by omega]⟩
            refine ⟨x'.comp, fun wy hky => ?_, ?_⟩
            · have hio := owns_keep HL8.out (fun q hq => hky.block q (HL8.out.lt q hq).2 id)
              exact owns3_cell (r := 1) ccl3_len hio hx' rfl
            · obtain ⟨h1, rfl⟩ := List.getElem?_eq_some_iff.1 hx'
              obtain ⟨h2, e2⟩ := List.getElem?_eq_some_iff.1 HXK.out
              have := List.pairwise_iff_getElem.1 HUP.out q (q + 1) h1 h2 (by omega)
              rw [e2] at this
              exact this)
          have hdl := HDL.out
          by_cases hz : k = 0
          · have hpos : decide ((0 : Int) < (k : Int)) = false := decide_eq_false (by omega)
            have hpos2 : decide (0 < k) = false := decide_eq_false (by omega)
            clear hz
            by_cases h1 : kd = 1
            · subst h1
              have HN : Hid (dropN (L.take (k + 1)) = dropN (L.take k)) := hid (by rw [HNX.out]; rfl)
              rw [decide_eq_false (show ¬ ((1 : Int) ≠ 1 ∧ (1 : Int) ≠ 2) by omega)]
              go_upto_region 18 with fail
              refine Plan.wp_region_pl [(false, 0, []), (false, 1, []), (false, 2, []), (false, 3, []), (false, 4, []), (false, 5, []), (false, 6, []), (false, 7, []), (false, 8, []), (false, 9, []), (false, 10, []), (false, 11, []), (false, 12, []), (false, 13, []), (false, 14, []), (false, 15, []), (false, 16, []), (false, 17, []), (false, 18, []), (false, 19, []), (false, 20, []), (false, 21, []), (false, 22, []), (false, 23, []), (false, 24, []), (false, 25, []), (false, 26, []), (false, 27, []), (false, 28, []), (false, 29, []), (false, 30, []), (false, 31, []), (false, 32, []), (false, 33, [])] (by kernel_rfl) (by kernel_rfl) ?_
              iterate 34 (refine Plan.pl_st rfl ?_; go_big_quiet_step (fail); refine wpQuiet_nil ?_)
              refine Plan.pl_end ?_
              go_wp2
              go_roundw
              case rel => exact ⟨k + 1, by omega, by rw [HN.out], by go_num, HKM.out⟩
              case measure => simp [intOf]; omega
            by_cases h2 : kd = 2
            · subst h2
              have HN : Hid (dropN (L.take (k + 1)) = dropN (L.take k) + 1) := hid (by rw [HNX.out]; rfl)
              rw [decide_eq_false (show ¬ ((2 : Int) ≠ 1 ∧ (2 : Int) ≠ 2) by omega)]
              go_upto_region 18 with fail
              refine Plan.wp_region_pl [(false, 0, []), (false, 1, []), (false, 2, []), (false, 3, []), (false, 4, []), (false, 5, []), (false, 6, []), (false, 7, []), (false, 8, []), (false, 9, []), (false, 10, []), (false, 11, []), (false, 12, []), (false, 13, []), (false, 14, []), (false, 15, []), (false, 16, []), (false, 17, []), (false, 18, []), (false, 19, []), (false, 20, []), (false, 21, []), (false, 22, []), (false, 23, []), (false, 24, []), (false, 25, []), (false, 26, []), (false, 27, []), (false, 28, []), (false, 29, []), (false, 30, []), (false, 31, []), (false, 32, []), (false, 33, [])] (by kernel_rfl) (by kernel_rfl) ?_
              iterate 34 (refine Plan.pl_st rfl ?_; go_big_quiet_step (fail); refine wpQuiet_nil ?_)
              refine Plan.pl_end ?_
              go_wp2
              go_roundw
              case rel => exact ⟨k + 1, by omega, by rw [HN.out]; go_num, by go_num, HKM.out⟩
              case measure => simp [intOf]; omega
            have HN : Hid (dropN (L.take (k + 1)) = dropN (L.take k)) := hid (by rw [HNX.out, if_neg (by exact h2), Nat.add_zero])
            rw [decide_eq_true (show kd ≠ 1 ∧ kd ≠ 2 from ⟨h1, h2⟩)]
            have e1 : (!kd == 1) = true := by rw [beq_eq_false_iff_ne.2 h1]; rfl
            have e2 : (!kd == 2) = true := by rw [beq_eq_false_iff_ne.2 h2]; rfl
            have e5 : (kd != 1) = true := by simp only [bne, beq_eq_false_iff_ne.2 h1]; rfl
            have e6 : (kd != 2) = true := by simp only [bne, beq_eq_false_iff_ne.2 h2]; rfl
            have e3 : (kd == 2) = false := beq_eq_false_iff_ne.2 h2
            have e4 : (kd == 1) = false := beq_eq_false_iff_ne.2 h1
            clear h1 h2
            go_upto_region 18 with fail
            refine Plan.wp_region_pl [(false, 0, []), (false, 1, []), (false, 2, []), (false, 3, []), (false, 4, []), (false, 5, []), (false, 6, []), (false, 7, []), (false, 8, []), (false, 9, []), (false, 10, []), (false, 11, []), (false, 12, []), (false, 13, []), (false, 14, []), (false, 15, []), (false, 16, []), (false, 17, []), (false, 18, []), (false, 19, []), (false, 20, []), (false, 21, []), (false, 22, []), (false, 23, []), (false, 24, []), (false, 25, []), (false, 26, []), (false, 27, []), (false, 28, []), (false, 29, []), (false, 30, []), (false, 31, []), (false, 32, []), (false, 33, [])] (by kernel_rfl) (by kernel_rfl) ?_
            iterate 34 (refine Plan.pl_st rfl ?_; go_big_quiet_step (fail); refine wpQuiet_nil ?_)
            refine Plan.pl_end ?_
            go_wp2
            go_roundw
            case rel => exact ⟨k + 1, by omega, by rw [HN.out], by go_num, HKM.out⟩
            case measure => simp [intOf]; omega
          · obtain ⟨q, hq⟩ : ∃ q, q + 1 = k := ⟨k - 1, by omega⟩
            obtain ⟨c', hcc, hle⟩ := hprev.out q hq
            have p1 := hcc _ HKM.out
            have hsub : (k : Int) - 1 = (q : Int) := by omega
            have hpos : decide ((0 : Int) < (k : Int)) = true := decide_eq_true (by omega)
            have hpos2 : decide (0 < k) = true := decide_eq_true (by omega)
            have hge : decide (co < c') = false := decide_eq_false (by omega)
            have hin3 : (0 : Int) ≤ (q : Int) ∧ (q : Int) < (L.length : Int) := ⟨by omega, by omega⟩
            clear hcc
            by_cases h1 : kd = 1
            · subst h1
              have HN : Hid (dropN (L.take (k + 1)) = dropN (L.take k)) := hid (by rw [HNX.out]; rfl)
              rw [decide_eq_false (show ¬ ((1 : Int) ≠ 1 ∧ (1 : Int) ≠ 2) by omega)]
              go_upto_region 18 with fail
              refine Plan.wp_region_pl [(false, 0, []), (false, 1, []), (false, 2, []), (false, 3, []), (false, 4, []), (false, 5, []), (false, 6, []), (false, 7, []), (false, 8, []), (false, 9, []), (false, 10, []), (false, 11, []), (false, 12, []), (false, 13, []), (false, 14, []), (false, 15, []), (false, 16, []), (false, 17, []), (false, 18, []), (false, 19, []), (false, 20, []), (false, 21, []), (false, 22, []), (false, 23, []), (false, 24, []), (false, 25, []), (false, 26, []), (false, 27, []), (false, 28, []), (false, 29, []), (false, 30, []), (false, 31, []), (false, 32, []), (false, 33, [])] (by kernel_rfl) (by kernel_rfl) ?_
              iterate 34 (refine Plan.pl_st rfl ?_; go_big_quiet_step (fail); refine wpQuiet_nil ?_)
              refine Plan.pl_end ?_
              go_wp2
              go_roundw
              case rel => exact ⟨k + 1, by omega, by rw [HN.out], by go_num, HKM.out⟩
              case measure => simp [intOf]; omega
            by_cases h2 : kd = 2
            · subst h2
              have HN : Hid (dropN (L.take (k + 1)) = dropN (L.take k) + 1) := hid (by rw [HNX.out]; rfl)
              rw [decide_eq_false (show ¬ ((2 : Int) ≠ 1 ∧ (2 : Int) ≠ 2) by omega)]
              go_upto_region 18 with fail
              refine Plan.wp_region_pl [(false, 0, []), (false, 1, []), (false, 2, []), (false, 3, []), (false, 4, []), (false, 5, []), (false, 6, []), (false, 7, []), (false, 8, []), (false, 9, []), (false, 10, []), (false, 11, []), (false, 12, []), (false, 13, []), (false, 14, []), (false, 15, []), (false, 16, []), (false, 17, []), (false, 18, []), (false, 19, []), (false, 20, []), (false, 21, []), (false, 22, []), (false, 23, []), (false, 24, []), (false, 25, []), (false, 26, []), (false, 27, []), (false, 28, []), (false, 29, []), (false, 30, []), (false, 31, []), (false, 32, []), (false, 33, [])] (by kernel_rfl) (by kernel_rfl) ?_
              iterate 34 (refine Plan.pl_st rfl ?_; go_big_quiet_step (fail); refine wpQuiet_nil ?_)
              refine Plan.pl_end ?_
              go_wp2
              go_roundw
              case rel => exact ⟨k + 1, by omega, by rw [HN.out]; go_num, by go_num, HKM.out⟩
              case measure => simp [intOf]; omega
            have HN : Hid (dropN (L.take (k + 1)) = dropN (L.take k)) := hid (by rw [HNX.out, if_neg (by exact h2), Nat.add_zero])
            rw [decide_eq_true (show kd ≠ 1 ∧ kd ≠ 2 from ⟨h1, h2⟩)]
            have e1 : (!kd == 1) = true := by rw [beq_eq_false_iff_ne.2 h1]; rfl
            have e2 : (!kd == 2) = true := by rw [beq_eq_false_iff_ne.2 h2]; rfl
            have e5 : (kd != 1) = true := by simp only [bne, beq_eq_false_iff_ne.2 h1]; rfl
            have e6 : (kd != 2) = true := by simp only [bne, beq_eq_false_iff_ne.2 h2]; rfl
            have e3 : (kd == 2) = false := beq_eq_false_iff_ne.2 h2
            have e4 : (kd == 1) = false := beq_eq_false_iff_ne.2 h1
            clear h1 h2
            go_upto_region 18 with fail
            refine Plan.wp_region_pl [(false, 0, []), (false, 1, []), (false, 2, []), (false, 3, []), (false, 4, []), (false, 5, []), (false, 6, []), (false, 7, []), (false, 8, []), (false, 9, []), (false, 10, []), (false, 11, []), (false, 12, []), (false, 13, []), (false, 14, []), (false, 15, []), (false, 16, []), (false, 17, []), (false, 18, []), (false, 19, []), (false, 20, []), (false, 21, []), (false, 22, []), (false, 23, []), (false, 24, []), (false, 25, []), (false, 26, []), (false, 27, []), (false, 28, []), (false, 29, []), (false, 30, []), (false, 31, []), (false, 32, []), (false, 33, [])] (by kernel_rfl) (by kernel_rfl) ?_
            iterate 34 (refine Plan.pl_st rfl ?_; go_big_quiet_step (fail); refine wpQuiet_nil ?_)
            refine Plan.pl_end ?_
            go_wp2
            go_roundw
            case rel => exact ⟨k + 1, by omega, by rw [HN.out], by go_num, HKM.out⟩
            case measure => simp [intOf]; omega
    · obtain rfl : k = L.length := by omega
      have g0 : decide ((L.length : Int) < (L.length : Int)) = false := decide_eq_false (by omega)
      rw [List.take_length] at *
      obtain ⟨⟨s0, s1⟩, s2, s3⟩ := HW.out _ (HK8.out.trans HKR.out)
      have g1 : ((K.length : Int) == (ca.length : Int) - (dropN L : Int)) = true := beq_iff_eq.2 HFIN.out
      have g2 : dropN L ≤ ca.length := by have := HFIN.out; omega
      go_wp2
      go_ret
      exact ⟨rfl, HK.out.trans (HK8.out.trans HKR.out)⟩

theorem kept_true (va : Int) (p : Option Addr) (z : Nat) (ca : List Cmp) (vb : Int) (p2 : Option Addr) (z2 : Nat) (cb : List Cmp) (w : World) (hca : CP w w.heap.size p ca) (hcb : CP w w.heap.size p2 cb) :
    Calls Tryd.prog 5 #[.agg #[.int .i64 va, .slice p ca.length z], .agg #[.int .i64 vb, .slice p2 cb.length z2]] w
      fun e w' => e = .returned (.bool true) ∧ Below w.heap.size w w' :=
  (kept_walk va ca p z vb cb p2 z2 w hca hcb).mono fun _ _ ⟨h1, h2⟩ => ⟨h1, h2.below⟩
end Go.Proofs.YtdekdefjfaoclaaDoor
