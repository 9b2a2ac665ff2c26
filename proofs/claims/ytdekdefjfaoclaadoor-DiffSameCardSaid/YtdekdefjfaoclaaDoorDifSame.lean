/- What is proved: the law DiffSame answers true, of two schemas in memory. -/
import Derived.Test.YtdekdefjfaoclaaDoorDifSameLaw
import Derived.Test.YtdekdefjfaoclaaDoorDifAwake
namespace Go.Proofs.YtdekdefjfaoclaaDoor
open Go.RowKit Go.Proofs.Heap Go.Proofs.Sch

theorem diffE_good {va : Int} {ca : List Cmp} {vb : Int} {cb : List Cmp} (h : diffE va ca vb cb = 0) : GoodS va ca ∧ GoodS vb cb := by
  unfold diffE at h
  by_cases h1 : checkC va ca = 0
  · rw [if_pos h1] at h
    exact ⟨(checkC_iff _ _).1 h1, (checkC_iff _ _).1 h⟩
  · rw [if_neg h1] at h; exact absurd h h1
theorem diffE_back {va : Int} {ca : List Cmp} {vb : Int} {cb : List Cmp} (h : diffE va ca vb cb = 0) : diffE vb cb va ca = 0 := by
  obtain ⟨h1, h2⟩ := diffE_good h
  unfold diffE
  rw [if_pos ((checkC_iff _ _).2 h2)]
  exact (checkC_iff _ _).2 h1
theorem turn_cell (k : Nat) (h1 : 1 ≤ k) (h7 : k ≤ 7) : (#[.int .i64 0, .int .i64 2, .int .i64 1, .int .i64 3, .int .i64 5, .int .i64 4, .int .i64 6, .int .i64 7] : Array Value)[k]? = some (.int .i64 (turnN (k : Int))) := by
  match k, h1, h7 with
  | 1, _, _ => rfl
  | 2, _, _ => rfl
  | 3, _, _ => rfl
  | 4, _, _ => rfl
  | 5, _, _ => rfl
  | 6, _, _ => rfl
  | 7, _, _ => rfl

set_option maxRecDepth 20000 in
set_option maxHeartbeats 16000000 in
theorem same_walk (va : Int) (ca : List Cmp) (p : Option Addr) (z : Nat) (vb : Int) (cb : List Cmp) (p2 : Option Addr) (z2 : Nat) (w : World)
    (hca : CP w w.heap.size p ca) (hcb : CP w w.heap.size p2 cb) :
    Calls Tryd.prog 6 #[.agg #[.int .i64 va, .slice p ca.length z], .agg #[.int .i64 vb, .slice p2 cb.length z2]] w
      fun e w' => e = .returned (.bool true) ∧ Keep (fun _ => False) w w' := by
  obtain ⟨w3, hw3, hb1, hb2, hs3, hk3⟩ := box2 w #[.int .i64 va, .slice p ca.length z] #[.int .i64 vb, .slice p2 cb.length z2] 24 24
  have HK := hid hk3
  have HD : Hid (∀ wy, Keep (fun _ => False) w3 wy → CP wy wy.heap.size p ca ∧ CP wy wy.heap.size p2 cb) := hid (fun wy hk =>
    ⟨CP.mono (CP.low hca (Low.keep0 (hk3.trans hk))) (hk3.trans hk).size, CP.mono (CP.low hcb (Low.keep0 (hk3.trans hk))) (hk3.trans hk).size⟩)
  clear hca hcb hk3 hs3
  go_enter Tryd.func6, Tryd.ntmps6
  go_upto_region 1 with fail
  rw [← hw3]
  clear hw3
  generalize w.heap.size = sb at *
  have HW : Hid (∀ wy, Keep (fun _ => False) w3 wy → (wy.cell? ⟨sb, 0, none⟩ = some (.int .i64 va) ∧ wy.cell? ⟨sb, 1, none⟩ = some (.slice p ca.length z)) ∧ (wy.cell? ⟨sb + 1, 0, none⟩ = some (.int .i64 vb) ∧ wy.cell? ⟨sb + 1, 1, none⟩ = some (.slice p2 cb.length z2))) := hid (fun wy hk =>
    ⟨⟨cell_of (hk.get hb1 id) (by rfl), cell_of (hk.get hb1 id) (by rfl)⟩, ⟨cell_of (hk.get hb2 id) (by rfl), cell_of (hk.get hb2 id) (by rfl)⟩⟩)
  clear hb1 hb2
  go_wp2_with fail
  refine (awake_true _).mono ?_
  rintro e w4 ⟨rfl, hk4⟩
  have HK4 := hid hk4
  obtain ⟨⟨s0, s1⟩, s2, s3⟩ := HW.out _ hk4
  clear hk4
  go_wp2_with fail
  refine (law_great9 va ca p z _ (HD.out _ HK4.out).1).mono ?_
  rintro e w5 ⟨⟨B, rfl, hB⟩, hk5⟩
  have HK5 := hid (HK4.out.trans hk5)
  have HF := hid hB
  clear hB hk5 s0 s1 s2 s3
  obtain ⟨⟨s0, s1⟩, s2, s3⟩ := HW.out _ HK5.out
  cases B
  rotate_left
  · go_wp2
    go_ret
    exact ⟨rfl, HK.out.trans HK5.out⟩
  have HA := hid (HF.out rfl)
  clear HF
  go_wp2_with fail
  refine (law_great9 vb cb p2 z2 _ (HD.out _ HK5.out).2).mono ?_
  rintro e w6 ⟨⟨B, rfl, hB⟩, hk6⟩
  have HK6 := hid (HK5.out.trans hk6)
  have HF := hid hB
  clear hB hk6 s0 s1 s2 s3
  cases B
  rotate_left
  · go_wp2
    go_ret
    exact ⟨rfl, HK.out.trans HK6.out⟩
  have HB := hid (HF.out rfl)
  clear HF
  obtain ⟨⟨s0, s1⟩, s2, s3⟩ := HW.out _ HK6.out
  go_wp2_with fail
  refine (dif_of va ca p z vb cb p2 z2 _ HA.out.mid HB.out.mid (HD.out _ HK6.out).1 (HD.out _ HK6.out).2).mono ?_
  rintro r w7 ⟨v7, rfl, ho7, hk7⟩
  obtain ⟨lp, lc, rfl⟩ := owns_val ho7
  have HK7 := hid (HK6.out.trans hk7)
  have HO7 := hid ho7
  clear ho7 hk7 s0 s1 s2 s3
  obtain ⟨⟨s0, s1⟩, s2, s3⟩ := HW.out _ HK7.out
  obtain ⟨e, he⟩ : ∃ e, diffE va ca vb cb = e := ⟨_, rfl⟩
  rw [he]
  have HE := hid he
  clear he
  go_wp2_with fail
  refine (dif_of vb cb p2 z2 va ca p z _ HB.out.mid HA.out.mid (HD.out _ HK7.out).2 (HD.out _ HK7.out).1).mono ?_
  rintro r w8 ⟨v8, rfl, ho8, hk8⟩
  obtain ⟨mp, mc, rfl⟩ := owns_val ho8
  have HK8 := hid (HK7.out.trans hk8)
  have HL8 := hid (owns_keep HO7.out (fun q hq => hk8.block q (HO7.out.lt q hq).2 id))
  have HM8 := hid ho8
  clear ho8 hk8 s0 s1 s2 s3 HO7
  obtain ⟨e2, he2⟩ : ∃ e2, diffE vb cb va ca = e2 := ⟨_, rfl⟩
  rw [he2]
  by_cases hck : e = 0
  rotate_left
  · have HZ : Hid (ofE va ca vb cb = []) := hid (if_neg (by rw [HE.out]; exact hck))
    have g1 : ((e : Int) != 0) = true := by simp only [bne, beq_eq_false_iff_ne.2 (show (e : Int) ≠ 0 by omega)]; rfl
    have g2 : (e != 0) = true := by simp only [bne, beq_eq_false_iff_ne.2 hck]; rfl
    have g3 : ((e : Int) == 0) = false := beq_eq_false_iff_ne.2 (by omega)
    have g4 : (e == 0) = false := beq_eq_false_iff_ne.2 hck
    rw [HZ.out] at HL8 ⊢
    clear hck he2
    go_wp2
    go_ret
    exact ⟨rfl, HK.out.trans HK8.out⟩
  subst hck
  obtain rfl : 0 = e2 := (diffE_back HE.out).symm.trans he2
  have HE2 := hid he2
  clear he2
  have HG := hid (diffE_good HE.out)
  have hoe : ofE va ca vb cb = ofL ca cb := if_pos HE.out
  have hoe2 : ofE vb cb va ca = ofL cb ca := if_pos HE2.out
  rw [hoe] at HL8 ⊢
  rw [hoe2] at HM8 ⊢
  have HCH := hid (ofN_chg ca cb 24)
  have HLE : Hid ((ofL ca cb).length ≤ 24 * 262144) := hid (ofN_le HA.out.mid HB.out.mid 24)
  have HTL := hid (turn_len HG.out.1 HG.out.2)
  have HTO : Hid (∀ x ∈ ofL ca cb, cntN (turnC x) (ofL cb ca) = 1) := hid (fun x hx => turn_one HG.out.1 HG.out.2 hx)
  have HNO := hid (of_none HG.out.1 HG.out.2)
  clear hoe hoe2
  obtain ⟨L, hL⟩ : ∃ L, ofL ca cb = L := ⟨_, rfl⟩
  obtain ⟨M, hM⟩ : ∃ M, ofL cb ca = M := ⟨_, rfl⟩
  have HKD : Hid (∀ x ∈ L, 1 ≤ x.kind ∧ x.kind ≤ 7) := hid (fun x hx => by
    rcases (HCH.out x (by rw [show ofN ca cb 24 = L from hL]; exact hx)).2 with h | h | h
    · rw [h.1]; decide
    · rw [h.1]; decide
    · obtain ⟨⟨h1, h2⟩, _⟩ := h; omega)
  rw [hL] at HL8 HLE HTL HTO HNO ⊢
  rw [hM] at HM8 HTL HTO ⊢
  clear hL hM HCH
  have hl1 := HLE.out
  have hl2 : M.length = L.length := HTL.out.symm
  rw [hl2] at HM8 ⊢
  have HML := hid hl2
  clear hl2
  obtain ⟨⟨s0, s1⟩, s2, s3⟩ := HW.out _ HK8.out
  obtain ⟨w9, hw9, hc9, hs9, hk9⟩ := box1 w8 #[.int .i64 va, .slice p2 cb.length z2] 24
  have HK9 := hid (HK8.out.trans hk9)
  have HL9 := hid (owns_keep HL8.out (fun q hq => hk9.block q (HL8.out.lt q hq).2 id))
  have HM9 := hid (owns_keep HM8.out (fun q hq => hk9.block q (HM8.out.lt q hq).2 id))
  clear hk9 hs9 HL8 HM8
  go_upto_region 10 with fail
  rw [← hw9]
  clear hw9 s0 s1 s2 s3
  generalize w8.heap.size = gb at *
  obtain ⟨⟨s0, s1⟩, s2, s3⟩ := HW.out _ HK9.out
  have c0 : w9.cell? ⟨gb, 0, none⟩ = some (.int .i64 va) := cell_of hc9 (by rfl)
  have c1 : w9.cell? ⟨gb, 1, none⟩ = some (.slice p2 cb.length z2) := cell_of hc9 (by rfl)
  go_wp2_with fail
  refine (sch_same va va ca cb p p2 z z2 _ HA.out.mid.small (HD.out _ HK9.out).1 (HD.out _ HK9.out).2).mono ?_
  rintro r x1 ⟨rfl, hk1⟩
  have HX1 := hid (HK9.out.trans hk1)
  have HL1 := hid (owns_keep HL9.out (fun q hq => hk1.block q (HL9.out.lt q hq).2 id))
  have HM1 := hid (owns_keep HM9.out (fun q hq => hk1.block q (HM9.out.lt q hq).2 id))
  clear hk1 s0 s1 s2 s3 c0 c1 hc9
  have HS : Hid (decide (va = va ∧ ca = cb) = ((L.length : Int) == 0)) := hid (by
    by_cases h : L = []
    · rw [decide_eq_true (⟨rfl, HNO.out.1 h⟩ : va = va ∧ ca = cb), h]; rfl
    · rw [decide_eq_false (fun e => h (HNO.out.2 e.2))]
      exact (beq_eq_false_iff_ne.2 (by have : L.length ≠ 0 := fun e => h (List.eq_nil_of_length_eq_zero e)
                                       omega)).symm)
  rw [HS.out]
  obtain ⟨w10, hw10, hc10, hs10, hk10⟩ := box1 x1 #[.int .i64 0, .int .i64 2, .int .i64 1, .int .i64 3, .int .i64 5, .int .i64 4, .int .i64 6, .int .i64 7] 50
  have HK10 := hid (HX1.out.trans hk10)
  have HL10 := hid (owns_keep HL1.out (fun q hq => hk10.block q (HL1.out.lt q hq).2 id))
  have HM10 := hid (owns_keep HM1.out (fun q hq => hk10.block q (HM1.out.lt q hq).2 id))
  have HC10 := hid hc10
  clear hk10 hs10 hc10
  go_upto_region 13 with fail
  rw [← hw10]
  clear hw10
  generalize x1.heap.size = tb at *
  go_wp2_with fail
  go_loopw [11, 12, 13] (fun i _ _ wr => ∃ k : Nat, k ≤ L.length ∧ i = iV k ∧ Keep (fun _ => False) w10 wr) (fun i _ _ _ => L.length + 1 - (intOf i).toNat)
  case atStart => exact ⟨0, Nat.zero_le _, rfl, Keep.refl _ _⟩
  case round =>
    generalize wr = wo at *
    obtain ⟨k, hk, rfl, hkr⟩ := hrel
    have HKR := hid hkr
    clear hkr
    by_cases hlt : k < L.length
    · obtain ⟨x, hxk⟩ : ∃ x, L[k]? = some x := ⟨L[k], by simp [hlt]⟩
      have HONE := hid (HTO.out x (List.mem_of_getElem? hxk))
      have hkd := HKD.out x (List.mem_of_getElem? hxk)
      obtain ⟨g, rfl⟩ := owns_some HL10.out (by omega)
      obtain ⟨g2, rfl⟩ := owns_some HM10.out (by omega)
      obtain ⟨xk, xc, xf⟩ := x
      simp only at hkd
      obtain ⟨kn, rfl⟩ : ∃ kn : Nat, xk = (kn : Int) := ⟨xk.toNat, by omega⟩
      have HCX : Hid (∀ wy, Keep (fun _ => False) w10 wy → (wy.cell? ⟨g, k * 3, none⟩ = some (.int .i64 (kn : Int)) ∧ wy.cell? ⟨g, k * 3 + 1, none⟩ = some (.int .i64 xc) ∧ wy.cell? ⟨g, k * 3 + 2, none⟩ = some (.string xf)) ∧ wy.cell? ⟨tb, kn, none⟩ = some (.int .i64 (turnN (kn : Int)))) := hid (fun wy hky =>
        have hio := owns_keep HL10.out (fun q hq => hky.block q (HL10.out.lt q hq).2 id)
        ⟨⟨owns3_cell (r := 0) ccl3_len hio hxk rfl, owns3_cell (r := 1) ccl3_len hio hxk rfl, owns3_cell (r := 2) ccl3_len hio hxk rfl⟩, cell_of (hky.get HC10.out id) (turn_cell kn (by omega) (by omega))⟩)
      have hin : (0 : Int) ≤ (k : Int) ∧ (k : Int) < (L.length : Int) := ⟨by omega, by omega⟩
      have hin8 : (0 : Int) ≤ (kn : Int) ∧ (kn : Int) < 8 := ⟨by omega, by omega⟩
      have hml := HML.out
      clear hxk hkd
      go_wp2_with fail
      obtain ⟨T, hT⟩ : ∃ T : Chg, turnC ⟨(kn : Int), xc, xf⟩ = T := ⟨_, rfl⟩
      have HTT : Hid (T = ⟨turnN (kn : Int), xc, xf⟩) := hid hT.symm
      rw [hT] at HONE
      generalize turnN (kn : Int) = tk at *
      clear hT
      go_loopw [12, 13] (fun n j wr => ∃ m : Nat, m ≤ L.length ∧ n = iV (cntN T (M.take m)) ∧ j = iV m ∧ Keep (fun _ => False) w10 wr) (fun _ j _ => L.length + 1 - (intOf j).toNat)
      case atStart => exact ⟨0, Nat.zero_le _, rfl, rfl, HKR.out⟩
      case round =>
        obtain ⟨m, hm, rfl, rfl, hkm⟩ := hrel
        have HKM := hid hkm.drew
        have HKM0 := hid hkm
        clear hkm
        by_cases hmt : m < L.length
        · obtain ⟨y, hym⟩ : ∃ y, M[m]? = some y := ⟨M[m]'(by omega), by simp [show m < M.length by omega]⟩
          have HNY := hid (cntN_next (x := T) hym)
          have hcl := cntN_le T M m
          have hio := owns_keep HM10.out (fun q hq => HKM.out.block q (HM10.out.lt q hq).2 id)
          have d0 : wr.drew.cell? ⟨g2, m * 3, none⟩ = some (.int .i64 y.kind) := owns3_cell (r := 0) ccl3_len hio hym rfl
          have d1 : wr.drew.cell? ⟨g2, m * 3 + 1, none⟩ = some (.int .i64 y.comp) := owns3_cell (r := 1) ccl3_len hio hym rfl
          have d2 : wr.drew.cell? ⟨g2, m * 3 + 2, none⟩ = some (.string y.field) := owns3_cell (r := 2) ccl3_len hio hym rfl
          obtain ⟨⟨c0, c1, c2⟩, c3⟩ := HCX.out _ HKM.out
          have hin2 : (0 : Int) ≤ (m : Int) ∧ (m : Int) < (L.length : Int) := ⟨by omega, by omega⟩
          clear hio hym
          obtain ⟨yk, yc, yf⟩ := y
          simp only at d0 d1 d2
          by_cases h1 : yk = tk
          rotate_left
          · have e1 : (yk == tk) = false := beq_eq_false_iff_ne.2 h1
            have HN : Hid (cntN T (M.take (m + 1)) = cntN T (M.take m)) := hid (by rw [HNY.out, if_neg (by rw [HTT.out]; intro e; exact h1 (by injection e)), Nat.add_zero])
            clear h1
            go_upto_region 20 with fail
            refine Plan.wp_region_pl [(false, 0, []), (false, 1, []), (false, 2, []), (false, 3, []), (false, 4, []), (false, 5, []), (false, 6, []), (false, 7, []), (false, 8, []), (false, 9, []), (false, 10, []), (false, 11, []), (false, 12, []), (false, 13, []), (false, 14, []), (false, 15, []), (false, 16, []), (false, 17, []), (false, 18, []), (false, 19, []), (false, 20, []), (false, 21, []), (false, 22, []), (false, 23, []), (false, 24, []), (false, 25, []), (false, 26, []), (false, 27, []), (false, 28, []), (false, 29, []), (false, 30, []), (false, 31, []), (false, 32, []), (false, 33, []), (false, 34, []), (false, 35, []), (false, 36, []), (false, 37, []), (false, 38, [])] (by kernel_rfl) (by kernel_rfl) ?_
            iterate 39 (refine Plan.pl_st rfl ?_; go_big_quiet_step (fail); refine wpQuiet_nil ?_)
            refine Plan.pl_end ?_
            go_wp2
            go_roundw
            case rel => exact ⟨m + 1, by omega, by rw [HN.out], by go_num, HKM.out⟩
            case measure => simp [intOf]; omega
          by_cases h2 : yc = xc
          rotate_left
          · have e0 : (yk == tk) = true := beq_iff_eq.2 h1
            have e1 : (yc == xc) = false := beq_eq_false_iff_ne.2 h2
            have HN : Hid (cntN T (M.take (m + 1)) = cntN T (M.take m)) := hid (by rw [HNY.out, if_neg (by rw [HTT.out]; intro e; exact h2 (by injection e)), Nat.add_zero])
            clear h1 h2
            go_upto_region 20 with fail
            refine Plan.wp_region_pl [(false, 0, []), (false, 1, []), (false, 2, []), (false, 3, []), (false, 4, []), (false, 5, []), (false, 6, []), (false, 7, []), (false, 8, []), (false, 9, []), (false, 10, []), (false, 11, []), (false, 12, []), (false, 13, []), (false, 14, []), (false, 15, []), (false, 16, []), (false, 17, []), (false, 18, []), (false, 19, []), (false, 20, []), (false, 21, []), (false, 22, []), (false, 23, []), (false, 24, []), (false, 25, []), (false, 26, []), (false, 27, []), (false, 28, []), (false, 29, []), (false, 30, []), (false, 31, []), (false, 32, []), (false, 33, []), (false, 34, []), (false, 35, []), (false, 36, []), (false, 37, []), (false, 38, [])] (by kernel_rfl) (by kernel_rfl) ?_
            iterate 39 (refine Plan.pl_st rfl ?_; go_big_quiet_step (fail); refine wpQuiet_nil ?_)
            refine Plan.pl_end ?_
            go_wp2
            go_roundw
            case rel => exact ⟨m + 1, by omega, by rw [HN.out], by go_num, HKM.out⟩
            case measure => simp [intOf]; omega
          by_cases h3 : yf = xf
          rotate_left
          · have e0 : (yk == tk) = true := beq_iff_eq.2 h1
            have e1 : (yc == xc) = true := beq_iff_eq.2 h2
            have e2 : (yf.toList == xf.toList) = false := beq_eq_false_iff_ne.2 (fun h => h3 (toList_inj h))
            have e3 : ¬ yf.toList = xf.toList := fun h => h3 (toList_inj h)
            have HN : Hid (cntN T (M.take (m + 1)) = cntN T (M.take m)) := hid (by rw [HNY.out, if_neg (by rw [HTT.out]; intro e; exact h3 (by injection e)), Nat.add_zero])
            clear h1 h2 h3
            go_upto_region 20 with fail
            refine Plan.wp_region_pl [(false, 0, []), (false, 1, []), (false, 2, []), (false, 3, []), (false, 4, []), (false, 5, []), (false, 6, []), (false, 7, []), (false, 8, []), (false, 9, []), (false, 10, []), (false, 11, []), (false, 12, []), (false, 13, []), (false, 14, []), (false, 15, []), (false, 16, []), (false, 17, []), (false, 18, []), (false, 19, []), (false, 20, []), (false, 21, []), (false, 22, []), (false, 23, []), (false, 24, []), (false, 25, []), (false, 26, []), (false, 27, []), (false, 28, []), (false, 29, []), (false, 30, []), (false, 31, []), (false, 32, []), (false, 33, []), (false, 34, []), (false, 35, []), (false, 36, []), (false, 37, []), (false, 38, [])] (by kernel_rfl) (by kernel_rfl) ?_
            iterate 39 (refine Plan.pl_st rfl ?_; go_big_quiet_step (fail); refine wpQuiet_nil ?_)
            refine Plan.pl_end ?_
            go_wp2
            go_roundw
            case rel => exact ⟨m + 1, by omega, by rw [HN.out], by go_num, HKM.out⟩
            case measure => simp [intOf]; omega
          have e0 : (yk == tk) = true := beq_iff_eq.2 h1
          have e1 : (yc == xc) = true := beq_iff_eq.2 h2
          have HN : Hid (cntN T (M.take (m + 1)) = cntN T (M.take m) + 1) := hid (by rw [HNY.out, if_pos (by rw [HTT.out, h1, h2, h3])])
          subst h3
          clear h1 h2
          go_upto_region 20 with fail
          refine Plan.wp_region_pl [(false, 0, []), (false, 1, []), (false, 2, []), (false, 3, []), (false, 4, []), (false, 5, []), (false, 6, []), (false, 7, []), (false, 8, []), (false, 9, []), (false, 10, []), (false, 11, []), (false, 12, []), (false, 13, []), (false, 14, []), (false, 15, []), (false, 16, []), (false, 17, []), (false, 18, []), (false, 19, []), (false, 20, []), (false, 21, []), (false, 22, []), (false, 23, []), (false, 24, []), (false, 25, []), (false, 26, []), (false, 27, []), (false, 28, []), (false, 29, []), (false, 30, []), (false, 31, []), (false, 32, []), (false, 33, []), (false, 34, []), (false, 35, []), (false, 36, []), (false, 37, []), (false, 38, [])] (by kernel_rfl) (by kernel_rfl) ?_
          iterate 39 (refine Plan.pl_st rfl ?_; go_big_quiet_step (fail); refine wpQuiet_nil ?_)
          refine Plan.pl_end ?_
          go_wp2
          go_roundw
          case rel => exact ⟨m + 1, by omega, by rw [HN.out]; go_num, by go_num, HKM.out⟩
          case measure => simp [intOf]; omega
        · obtain rfl : m = L.length := by omega
          have g0 : decide ((L.length : Int) < (L.length : Int)) = false := decide_eq_false (by omega)
          rw [show M.take L.length = M by rw [← hml, List.take_length], HONE.out]
          go_wp2
          go_roundw
          case rel => exact ⟨k + 1, by omega, by go_num, HKM0.out⟩
          case measure => simp [intOf]; omega
    · obtain rfl : k = L.length := by omega
      have g0 : decide ((L.length : Int) < (L.length : Int)) = false := decide_eq_false (by omega)
      go_wp2
      go_ret
      exact ⟨rfl, HK.out.trans (HK10.out.trans HKR.out)⟩

theorem same_true (va : Int) (p : Option Addr) (z : Nat) (ca : List Cmp) (vb : Int) (p2 : Option Addr) (z2 : Nat) (cb : List Cmp) (w : World) (hca : CP w w.heap.size p ca) (hcb : CP w w.heap.size p2 cb) :
    Calls Tryd.prog 6 #[.agg #[.int .i64 va, .slice p ca.length z], .agg #[.int .i64 vb, .slice p2 cb.length z2]] w
      fun e w' => e = .returned (.bool true) ∧ Below w.heap.size w w' :=
  (same_walk va ca p z vb cb p2 z2 w hca hcb).mono fun _ _ ⟨h1, h2⟩ => ⟨h1, h2.below⟩
end Go.Proofs.YtdekdefjfaoclaaDoor
