/- What is proved: the law DiffExact answers true, of two schemas in memory. -/
import Derived.Test.YtdekdefjfaoclaaDoorDifAwake
import Derived.Test.YtdekdefjfaoclaaDoorRf9b
import Derived.Test.YtdekdefjfaoclaaDoorRf9g
import Derived.Test.YtdekdefjfaoclaaDoorDifSameLaw
namespace Go.Proofs.YtdekdefjfaoclaaDoor
open Go.RowKit Go.Proofs.Heap Go.Proofs.Sch

theorem diffE_good {va : Int} {ca : List Cmp} {vb : Int} {cb : List Cmp} (h : diffE va ca vb cb = 0) : GoodS va ca ∧ GoodS vb cb := by
  unfold diffE at h
  by_cases h1 : checkC va ca = 0
  · rw [if_pos h1] at h
    exact ⟨(checkC_iff _ _).1 h1, (checkC_iff _ _).1 h⟩
  · rw [if_neg h1] at h; exact absurd h h1
theorem good_name {v : Int} {cs : List Cmp} (h : GoodS v cs) {c : Cmp} (hc : c ∈ cs) {s : ByteArray} (hs : hasF c.fs s = true) : s.size ≤ 12 := by
  obtain ⟨f, hf, rfl⟩ := has_mem.1 hs
  exact nameB_size ((fldBad_iff _ _ (fieldsC_zero (h.2.1 c hc).2.2.2.2).1).1 f hf).1
theorem of_field {va vb : Int} {ca cb : List Cmp} (ha : GoodS va ca) (hb : GoodS vb cb) : ∀ n : Nat, ∀ x ∈ ofN ca cb n, x.field.size ≤ 12
  | 0, x, hx => by simp [ofN] at hx
  | n + 1, x, hx => by
    unfold ofN at hx
    rcases List.mem_append.1 hx with hx | hx
    · exact of_field ha hb n x hx
    · unfold stepL at hx
      by_cases h1 : inC ca ((n : Int) + 1) = true
      · rw [if_pos h1] at hx
        by_cases h2 : inC cb ((n : Int) + 1) = true
        · rw [if_pos h2] at hx
          obtain ⟨ma, ea⟩ := foundC_mem h1
          obtain ⟨mb, eb⟩ := foundC_mem h2
          obtain ⟨_, h⟩ := (comp_mem (hb.names mb) (ea.trans eb.symm)).1 hx
          rcases h with ⟨_, h, _⟩ | ⟨_, h, _⟩ | ⟨_, h, _⟩ | ⟨_, f, hf, _, _, e, _⟩ | ⟨_, h, _⟩
          · rw [h]; decide
          · exact good_name ha ma h
          · exact good_name hb mb h
          · exact good_name ha ma (has_mem.2 ⟨f, hf, e⟩)
          · rw [h]; decide
        · rw [if_neg h2] at hx; rw [List.mem_singleton.1 hx]; simp [ByteArray.size]
      · rw [if_neg h1] at hx
        by_cases h2 : inC cb ((n : Int) + 1) = true
        · rw [if_pos h2] at hx; rw [List.mem_singleton.1 hx]; simp [ByteArray.size]
        · rw [if_neg h2] at hx; simp at hx
theorem of_small {va vb : Int} {ca cb : List Cmp} (w : World) : ∀ x ∈ ofE va ca vb cb, x.field.size ≤ 1000000 ∧ ItOk x.comp w := by
  intro x hx
  unfold ofE at hx
  by_cases h : diffE va ca vb cb = 0
  · rw [if_pos h] at hx
    obtain ⟨ha, hb⟩ := diffE_good h
    have h1 := of_field ha hb 24 x hx
    have h2 := (ofN_chg ca cb 24 x hx).1
    exact ⟨by omega, it_small _ (by omega) (by omega) w⟩
  · rw [if_neg h] at hx; simp at hx
theorem kept_at {ca cb : List Cmp} {i : Nat} {c : Cmp} (hc : ca[i]? = some c) (hi : inC cb c.id = true) : (keptL (ca.take i) cb).length < (keptL ca cb).length ∧ (keptL ca cb)[(keptL (ca.take i) cb).length]? = some c.id := by
  have h1 : keptL ca cb = keptL (ca.take (i + 1)) cb ++ keptL (ca.drop (i + 1)) cb := by
    unfold keptL
    rw [← List.map_append, ← List.filter_append, List.take_append_drop]
  rw [keptL_next cb hc, if_pos hi] at h1
  rw [h1]
  refine ⟨by simp only [List.length_append, List.length_cons, List.length_nil]; omega, ?_⟩
  rw [List.append_assoc, List.getElem?_append_right (Nat.le_refl _), Nat.sub_self]; rfl

set_option maxRecDepth 20000 in
set_option maxHeartbeats 16000000 in
theorem exact_walk (va : Int) (ca : List Cmp) (p : Option Addr) (z : Nat) (vb : Int) (cb : List Cmp) (p2 : Option Addr) (z2 : Nat) (w : World)
    (hca : CP w w.heap.size p ca) (hcb : CP w w.heap.size p2 cb) :
    Calls Tryd.prog 3 #[.agg #[.int .i64 va, .slice p ca.length z], .agg #[.int .i64 vb, .slice p2 cb.length z2]] w
      fun e w' => e = .returned (.bool true) ∧ Keep (fun _ => False) w w' := by
  obtain ⟨w3, hw3, hb1, hb2, hs3, hk3⟩ := box2 w #[.int .i64 va, .slice p ca.length z] #[.int .i64 vb, .slice p2 cb.length z2] 24 24
  have HK := hid hk3
  have HD : Hid (∀ wy, Keep (fun _ => False) w3 wy → CP wy wy.heap.size p ca ∧ CP wy wy.heap.size p2 cb) := hid (fun wy hk =>
    ⟨CP.mono (CP.low hca (Low.keep0 (hk3.trans hk))) (hk3.trans hk).size, CP.mono (CP.low hcb (Low.keep0 (hk3.trans hk))) (hk3.trans hk).size⟩)
  clear hca hcb hk3 hs3
  go_enter Tryd.func3, Tryd.ntmps3
  go_upto_region 1 with fail
  rw [← hw3]
  clear hw3
  generalize w.heap.size = sb at *
  have HW : Hid (∀ wy, Keep (fun _ => False) w3 wy → (wy.cell? ⟨sb, 0, none⟩ = some (.int .i64 va) ∧ wy.cell? ⟨sb, 1, none⟩ = some (.slice p ca.length z)) ∧ (wy.cell? ⟨sb + 1, 0, none⟩ = some (.int .i64 vb) ∧ wy.cell? ⟨sb + 1, 1, none⟩ = some (.slice p2 cb.length z2))) := hid (fun wy hk =>
    ⟨⟨cell_of (hk.get hb1 id) (by rfl), cell_of (hk.get hb1 id) (by rfl)⟩, ⟨cell_of (hk.get hb2 id) (by rfl), cell_of (hk.get hb2 id) (by rfl)⟩⟩)
  clear hb1 hb2
  go_wp2_with fail
  refine (awake_true _).mono ?_
  rintro e w4 ⟨rfl, hk4⟩
  have HK4 := hid hk4
  obtain ⟨⟨s0, s1⟩, s2, s3⟩ := HW.out _ hk4
  clear hk4
  go_wp2_with fail
  refine (law_great9 va ca p z _ (HD.out _ HK4.out).1).mono ?_
  rintro e w5 ⟨⟨B, rfl, hB⟩, hk5⟩
  have HK5 := hid (HK4.out.trans hk5)
  have HF := hid hB
  clear hB hk5 s0 s1 s2 s3
  obtain ⟨⟨s0, s1⟩, s2, s3⟩ := HW.out _ HK5.out
  cases B
  rotate_left
  · go_wp2
    go_ret
    exact ⟨rfl, HK.out.trans HK5.out⟩
  have HA := hid (HF.out rfl)
  clear HF
  go_wp2_with fail
  refine (law_great9 vb cb p2 z2 _ (HD.out _ HK5.out).2).mono ?_
  rintro e w6 ⟨⟨B, rfl, hB⟩, hk6⟩
  have HK6 := hid (HK5.out.trans hk6)
  have HF := hid hB
  clear hB hk6 s0 s1 s2 s3
  cases B
  rotate_left
  · go_wp2
    go_ret
    exact ⟨rfl, HK.out.trans HK6.out⟩
  have HB := hid (HF.out rfl)
  clear HF
  obtain ⟨⟨s0, s1⟩, s2, s3⟩ := HW.out _ HK6.out
  go_wp2_with fail
  refine (r_check va ca p z _ HA.out.mid.small (HD.out _ HK6.out).1).mono ?_
  rintro r x1 ⟨rfl, hk1⟩
  have HX1 := hid (HK6.out.trans hk1)
  clear hk1 s0 s1 s2 s3
  obtain ⟨⟨s0, s1⟩, s2, s3⟩ := HW.out _ HX1.out
  go_upto_if 26 with fail
  go_cut [5] from 24 to 28 (fun v wx => v = iV (diffE va ca vb cb) ∧ Keep (fun _ => False) w3 wx)
  case first =>
    by_cases hck : checkC va ca = 0
    rotate_left
    · have HE2 : Hid (diffE va ca vb cb = checkC va ca) := hid (by unfold diffE; rw [if_neg hck])
      generalize checkC va ca = e at *
      have g3 : ((e : Int) == 0) = false := beq_eq_false_iff_ne.2 (by omega)
      have g4 : (e == 0) = false := beq_eq_false_iff_ne.2 hck
      clear hck
      go_wp2
      go_meet
      case rel => exact ⟨by rw [HE2.out], HX1.out⟩
    have HE2 : Hid (diffE va ca vb cb = checkC vb cb) := hid (by unfold diffE; rw [if_pos hck])
    rw [hck]
    clear hck
    go_wp2_with fail
    refine (r_check vb cb p2 z2 _ HB.out.mid.small (HD.out _ HX1.out).2).mono ?_
    rintro r x2 ⟨rfl, hk2⟩
    go_wp2
    go_meet
    case rel => exact ⟨by rw [HE2.out], HX1.out.trans hk2⟩
  case rest =>
  obtain ⟨rfl, hkc⟩ := hcut
  have HXC := hid hkc
  clear hkc s0 s1 s2 s3 HX1
  generalize wc = u0 at *
  obtain ⟨⟨s0, s1⟩, s2, s3⟩ := HW.out _ HXC.out
  go_wp2_with fail
  refine (dif_of va ca p z vb cb p2 z2 _ HA.out.mid HB.out.mid (HD.out _ HXC.out).1 (HD.out _ HXC.out).2).mono ?_
  rintro r w7 ⟨v7, rfl, ho7, hk7⟩
  obtain ⟨lp, lc, rfl⟩ := owns_val ho7
  have HK7 := hid (HXC.out.trans hk7)
  have HO7 := hid ho7
  clear ho7 hk7 s0 s1 s2 s3
  obtain ⟨⟨s0, s1⟩, s2, s3⟩ := HW.out _ HK7.out
  go_wp2_with fail
  refine (dif_lines va ca p z vb cb p2 z2 _ HA.out.mid HB.out.mid (of_small _) (HD.out _ HK7.out).1 (HD.out _ HK7.out).2).mono ?_
  rintro r w8 ⟨v8, rfl, ho8, hk8⟩
  obtain ⟨sp, sc, rfl⟩ := owns_val ho8
  have HK8 := hid (HK7.out.trans hk8)
  have HO78 := hid (owns_keep HO7.out (fun q hq => hk8.block q (HO7.out.lt q hq).2 id))
  have HO8 := hid ho8
  clear ho8 hk8 s0 s1 s2 s3 HO7
  obtain ⟨⟨s0, s1⟩, s2, s3⟩ := HW.out _ HK8.out
  go_wp2_with fail
  refine (dif_kept va ca p z vb cb p2 z2 _ HA.out.mid HB.out.mid (HD.out _ HK8.out).1 (HD.out _ HK8.out).2).mono ?_
  rintro r w9 ⟨v9, rfl, ho9, hk9⟩
  obtain ⟨ip, ic, rfl⟩ := owns_val ho9
  have HK9 := hid (HK8.out.trans hk9)
  have HL9 := hid (owns_keep HO78.out (fun q hq => hk9.block q (HO78.out.lt q hq).2 id))
  have HS9 := hid (owns_keep HO8.out (fun q hq => hk9.block q (HO8.out.lt q hq).2 id))
  have HI9 := hid ho9
  clear ho9 hk9 s0 s1 s2 s3 HO78 HO8
  obtain ⟨e, he⟩ : ∃ e, diffE va ca vb cb = e := ⟨_, rfl⟩
  rw [he]
  have HE := hid he
  clear he
  have g0 : ((e : Int) != (e : Int)) = false := by simp
  by_cases hck : e = 0
  rotate_left
  · have HZ : Hid (ofE va ca vb cb = []) := hid (if_neg (by rw [HE.out]; exact hck))
    have HZK : Hid (keptE va ca vb cb = []) := hid (if_neg (by rw [HE.out]; exact hck))
    have g1 : ((e : Int) != 0) = true := by simp only [bne, beq_eq_false_iff_ne.2 (show (e : Int) ≠ 0 by omega)]; rfl
    have g2 : (e != 0) = true := by simp only [bne, beq_eq_false_iff_ne.2 hck]; rfl
    have g3 : ((e : Int) == 0) = false := beq_eq_false_iff_ne.2 (by omega)
    have g4 : (e == 0) = false := beq_eq_false_iff_ne.2 hck
    rw [HZ.out, HZK.out]
    clear hck
    go_wp2
    go_ret
    exact ⟨rfl, HK.out.trans HK9.out⟩
  subst hck
  have HG := hid (diffE_good HE.out)
  have hoe : ofE va ca vb cb = ofL ca cb := if_pos HE.out
  have hke : keptE va ca vb cb = keptL ca cb := if_pos HE.out
  rw [hoe] at HL9 HS9 ⊢
  rw [hke] at HI9 ⊢
  have HCH := hid (ofN_chg ca cb 24)
  have HFS := hid (of_field HG.out.1 HG.out.2 24)
  have HLE : Hid ((ofL ca cb).length ≤ 24 * 262144) := hid (ofN_le HA.out.mid HB.out.mid 24)
  have HKE : Hid ((keptL ca cb).length ≤ ca.length) := hid (by have := keptL_le ca cb ca.length; rwa [List.take_length] at this)
  clear hoe hke
  obtain ⟨⟨s0, s1⟩, s2, s3⟩ := HW.out _ HK9.out
  go_upto_region 15 with fail
  have hl1 := HLE.out
  have hl2 := HKE.out
  have hl3 := HA.out.1
  go_wp2_with fail
  refine (rf_of va ca p z vb cb p2 z2 _ HA.out.mid HB.out.mid HG.out.1 HG.out.2 (HD.out _ HK9.out).1 (HD.out _ HK9.out).2).mono ?_
  rintro r w10 ⟨v10, rfl, ho10, hk10⟩
  obtain ⟨rp, rc, rfl⟩ := owns_val ho10
  have HK10 := hid (HK9.out.trans hk10)
  have HL10 := hid (owns_keep HL9.out (fun q hq => hk10.block q (HL9.out.lt q hq).2 id))
  have HS10 := hid (owns_keep HS9.out (fun q hq => hk10.block q (HS9.out.lt q hq).2 id))
  have HI10 := hid (owns_keep HI9.out (fun q hq => hk10.block q (HI9.out.lt q hq).2 id))
  have HR10 := hid ho10
  clear ho10 hk10 s0 s1 s2 s3 HL9 HS9 HI9
  obtain ⟨L, hL⟩ : ∃ L, ofL ca cb = L := ⟨_, rfl⟩
  obtain ⟨K, hK⟩ : ∃ K, keptL ca cb = K := ⟨_, rfl⟩
  have HKK := hid hK
  have HCH2 : Hid (∀ x ∈ L, (1 ≤ x.comp ∧ x.comp ≤ 24) ∧ x.field.size ≤ 12) := hid (fun x hx => by
    rw [← hL] at hx
    have h1 := (HCH.out x hx).1
    exact ⟨by omega, HFS.out x hx⟩)
  rw [hL] at HL10 HS10 HR10 hl1 ⊢
  rw [hK] at HI10 hl2 ⊢
  clear hL hK HCH HFS HLE HKE
  have g9 : ((L.length : Int) != (L.length : Int)) = false := by simp
  go_wp2_with fail
  go_loopw [12] (fun i wr => ∃ k : Nat, k ≤ L.length ∧ i = iV k ∧ Keep (fun _ => False) w10 wr) (fun i _ => L.length + 1 - (intOf i).toNat)
  case atStart => exact ⟨0, Nat.zero_le _, rfl, Keep.refl _ _⟩
  case round =>
    obtain ⟨k, hk, rfl, hkr⟩ := hrel
    have HKR := hid hkr.drew
    have HKR_ := hid hkr
    clear hkr
    by_cases hlt : k < L.length
    · obtain ⟨x, hxk⟩ : ∃ x, L[k]? = some x := ⟨L[k], by simp [hlt]⟩
      have HXX := hid (HCH2.out x (List.mem_of_getElem? hxk))
      obtain ⟨g, rfl⟩ := owns_some HL10.out (by omega)
      obtain ⟨g1, rfl⟩ := owns_some HS10.out (by omega)
      obtain ⟨g2, rfl⟩ := owns_some HR10.out (by omega)
      have HCX : Hid (∀ wy, Keep (fun _ => False) w10 wy → (wy.cell? ⟨g, k * 3, none⟩ = some (.int .i64 x.kind) ∧ wy.cell? ⟨g, k * 3 + 1, none⟩ = some (.int .i64 x.comp) ∧ wy.cell? ⟨g, k * 3 + 2, none⟩ = some (.string x.field)) ∧
          (wy.cell? ⟨g2, k * 3, none⟩ = some (.int .i64 x.kind) ∧ wy.cell? ⟨g2, k * 3 + 1, none⟩ = some (.int .i64 x.comp) ∧ wy.cell? ⟨g2, k * 3 + 2, none⟩ = some (.string x.field)) ∧ wy.cell? ⟨g1, k, none⟩ = some (.string (lineB x))) := hid (fun wy hky =>
        have hio := owns_keep HL10.out (fun q hq => hky.block q (HL10.out.lt q hq).2 id)
        have hir := owns_keep HR10.out (fun q hq => hky.block q (HR10.out.lt q hq).2 id)
        have his := owns_keep HS10.out (fun q hq => hky.block q (HS10.out.lt q hq).2 id)
        ⟨⟨owns3_cell (r := 0) ccl3_len hio hxk rfl, owns3_cell (r := 1) ccl3_len hio hxk rfl, owns3_cell (r := 2) ccl3_len hio hxk rfl⟩, ⟨owns3_cell (r := 0) ccl3_len hir hxk rfl, owns3_cell (r := 1) ccl3_len hir hxk rfl, owns3_cell (r := 2) ccl3_len hir hxk rfl⟩,
          (owns_cell his hlt).trans (by rw [List.getElem?_map]; unfold linesL; rw [List.getElem?_map, hxk]; rfl)⟩)
      have hin : (0 : Int) ≤ (k : Int) ∧ (k : Int) < (L.length : Int) := ⟨by omega, by omega⟩
      clear hxk
      obtain ⟨kd, co, fl⟩ := x
      obtain ⟨⟨c0, c1, c2⟩, ⟨d0, d1, d2⟩, f0⟩ := HCX.out _ HKR.out
      generalize hlb : lineB ⟨kd, co, fl⟩ = lb at *
      have HLB := hid hlb
      clear hlb
      simp only at c0 c1 c2 d0 d1 d2
      have e1 : (kd != kd) = false := by simp
      have e2 : (co != co) = false := by simp
      have e3 : (!fl.toList == fl.toList) = false := by simp
      have e4 : (!lb.toList == lb.toList) = false := by simp
      go_upto_region 21 with fail
      refine Plan.wp_region_pl [(false, 0, []), (false, 1, []), (false, 2, []), (false, 3, []), (false, 4, []), (false, 5, []), (false, 6, []), (false, 7, []), (false, 8, []), (false, 9, []), (false, 10, []), (false, 11, []), (false, 12, []), (false, 13, []), (false, 14, []), (false, 15, []), (false, 16, []), (false, 17, []), (false, 18, []), (false, 19, []), (false, 20, []), (false, 21, []), (false, 22, []), (false, 23, []), (false, 24, []), (false, 25, []), (false, 26, []), (false, 27, []), (false, 28, []), (false, 29, []), (false, 30, []), (false, 31, []), (false, 32, []), (false, 33, []), (false, 34, []), (false, 35, []), (false, 36, []), (false, 37, []), (false, 38, []), (false, 39, []), (false, 40, []), (false, 41, []), (false, 42, []), (false, 43, []), (false, 44, []), (false, 45, []), (true, 46, [41, 40, 39, 38]), (false, 47, []), (false, 48, [])] (by kernel_rfl) (by kernel_rfl) ?_
      iterate 46 (refine Plan.pl_st rfl ?_; go_big_quiet_step (fail); refine wpQuiet_nil ?_)
      refine Plan.pl_ac rfl ?_
      go_wp2_with fail
      refine (rf_line ⟨kd, co, fl⟩ _ (by have := HXX.out.2; simp only at this ⊢; omega) (by have := HXX.out.1; simp only at this ⊢; omega) (by have := HXX.out.1; simp only at this ⊢; omega)).mono ?_
      rw [HLB.out]
      rintro r w11 ⟨rfl, hk11⟩
      have HK11 := hid (HKR.out.trans hk11)
      clear hk11 c0 c1 c2 d0 d1 d2 f0
      obtain ⟨⟨c0, c1, c2⟩, ⟨d0, d1, d2⟩, f0⟩ := HCX.out _ HK11.out
      try rw [HLB.out] at f0
      go_wp2
      refine Plan.plQ_mk ?_ ?_
      · iterate 4 (refine Plan.chk_st rfl ?_ ?_; focus (go_big_quiet_step (fail); exact wpQuiet_nil rfl))
        exact Plan.chk_end
      iterate 2 (refine Plan.pl_st rfl ?_; go_big_quiet_step (fail); refine wpQuiet_nil ?_)
      refine Plan.pl_end ?_
      go_wp2
      go_roundw
      case rel => exact ⟨k + 1, by omega, by go_num, HK11.out⟩
      case measure => simp [intOf]; omega
    · obtain rfl : k = L.length := by omega
      have g0' : decide ((L.length : Int) < (L.length : Int)) = false := decide_eq_false (by omega)
      clear hl1
      go_wp2_with fail
      go_loopw [13, 14] (fun n i wr => ∃ k : Nat, k ≤ ca.length ∧ n = iV (keptL (ca.take k) cb).length ∧ i = iV k ∧ Keep (fun _ => False) w10 wr) (fun _ i _ => ca.length + 1 - (intOf i).toNat)
      case atStart => exact ⟨0, Nat.zero_le _, rfl, rfl, HKR_.out⟩
      case round =>
        clear HKR HKR_
        obtain ⟨k, hk, rfl, rfl, hkr⟩ := hrel
        have HKR := hid hkr.drew
        have HKR_ := hid hkr
        have HKW := hid (HK10.out.trans HKR.out)
        clear hkr
        by_cases hlt : k < ca.length
        · obtain ⟨c, hck⟩ : ∃ c, ca[k]? = some c := ⟨ca[k], by simp [hlt]⟩
          have HNX := hid (keptL_next cb hck)
          have hkl := keptL_le ca cb k
          have HCK := hid hck
          have HIN := hid (find_in (cs := cb) c.id)
          obtain ⟨b, off, fq, fk, rfl, hb, c0, c1, c2, _, _⟩ := CP.at (HD.out _ HKW.out).1 hck
          obtain ⟨⟨s0, s1⟩, s2, s3⟩ := HW.out _ HKW.out
          obtain ⟨⟨_, t1⟩, _⟩ := HW.out _ (HK10.out.trans HKR_.out)
          have hin : (0 : Int) ≤ (k : Int) ∧ (k : Int) < (ca.length : Int) := ⟨by omega, by omega⟩
          clear hck hb
          generalize hci : c.id = ci at *
          go_upto_region 27 with fail
          refine Plan.wp_region_pl [(false, 0, []), (false, 1, []), (false, 2, []), (false, 3, []), (false, 4, []), (false, 5, []), (false, 6, []), (true, 7, []), (false, 8, [])] (by kernel_rfl) (by kernel_rfl) ?_
          iterate 7 (refine Plan.pl_st rfl ?_; go_big_quiet_step (fail); refine wpQuiet_nil ?_)
          refine Plan.pl_ac rfl ?_
          go_wp2_with fail
          refine (r_find ci vb cb p2 z2 _ HB.out.mid.small.1 (HD.out _ HKW.out).2).mono ?_
          rintro r x3 ⟨rfl, hk3⟩
          have HX3 := hid (HKR.out.trans hk3)
          clear hk3 s0 s1 s2 s3 c0 c1 c2 t1
          rcases HIN.out with ⟨ea, ia⟩ | ⟨na, a, ea, _, hla, ia, _⟩
          · have G : Hid (keptL (ca.take (k + 1)) cb = keptL (ca.take k) cb) := hid (by rw [HNX.out, if_neg (by rw [ia]; simp), List.append_nil])
            rw [ea]
            have g7 : decide ((0 : Int) ≤ -1) = false := by decide
            clear ea ia
            go_wp2
            refine Plan.plQ_mk Plan.chk_end ?_
            iterate 1 (refine Plan.pl_st rfl ?_; go_big_quiet_step (fail); refine wpQuiet_nil ?_)
            refine Plan.pl_end ?_
            go_wp2
            go_roundw
            case rel => exact ⟨k + 1, by omega, by rw [G.out], by go_num, HX3.out⟩
            case measure => simp [intOf]; omega
          · have G : Hid (keptL (ca.take (k + 1)) cb = keptL (ca.take k) cb ++ [ci]) := hid (by rw [HNX.out, if_pos ia])
            obtain ⟨q1, q2⟩ := kept_at HCK.out (by rw [hci]; exact ia)
            rw [HKK.out] at q1 q2
            rw [hci] at q2
            rw [ea]
            have g7 : decide ((0 : Int) ≤ (na : Int)) = true := decide_eq_true (by omega)
            have HLL : Hid ((keptL (ca.take k) cb ++ [ci]).length = (keptL (ca.take k) cb).length + 1) := hid (by simp)
            generalize (keptL (ca.take k) cb).length = n at *
            obtain ⟨g2, rfl⟩ := owns_some HI10.out (by omega)
            have HXD := hid HX3.out.drew
            have hio := owns_keep HI10.out (fun q hq => HXD.out.block q (HI10.out.lt q hq).2 id)
            have d0 : x3.drew.cell? ⟨g2, n, none⟩ = some (.int .i64 ci) := (owns_cell hio q1).trans (by rw [List.getElem?_map, q2]; rfl)
            obtain ⟨b9, off9, fq9, fk9, e9, _, c0, _⟩ := CP.at (HD.out _ (HK10.out.trans HXD.out)).1 HCK.out
            injection e9 with e9; injection e9 with e91 e92 e93; subst e91; subst e92
            rw [hci] at c0
            obtain ⟨⟨_, s1⟩, _⟩ := HW.out _ (HK10.out.trans HXD.out)
            have hin2 : (0 : Int) ≤ (n : Int) ∧ (n : Int) < (K.length : Int) := ⟨by omega, by omega⟩
            have g8 : decide ((K.length : Int) ≤ (n : Int)) = false := decide_eq_false (by omega)
            have g10 : decide (K.length ≤ n) = false := decide_eq_false (by omega)
            have e1 : (ci != ci) = false := by simp
            clear ea ia hio q2
            go_wp2
            refine Plan.plQ_mk Plan.chk_end ?_
            iterate 1 (refine Plan.pl_st rfl ?_; go_big_quiet_step (fail); refine wpQuiet_nil ?_)
            refine Plan.pl_end ?_
            go_upto_region 28 with fail
            refine Plan.wp_region_pl [(false, 0, []), (false, 1, []), (false, 2, []), (false, 3, []), (false, 4, []), (false, 5, []), (false, 6, []), (false, 7, []), (false, 8, []), (false, 9, []), (false, 10, []), (false, 11, []), (false, 12, []), (false, 13, []), (false, 14, []), (false, 15, []), (false, 16, [])] (by kernel_rfl) (by kernel_rfl) ?_
            iterate 17 (refine Plan.pl_st rfl ?_; go_big_quiet_step (fail); refine wpQuiet_nil ?_)
            refine Plan.pl_end ?_
            go_wp2
            go_roundw
            case rel => exact ⟨k + 1, by omega, by rw [G.out, HLL.out]; go_num, by go_num, HXD.out⟩
            case measure => simp [intOf]; omega
        · obtain rfl : k = ca.length := by omega
          have g7 : decide ((ca.length : Int) < (ca.length : Int)) = false := decide_eq_false (by omega)
          obtain ⟨⟨s0, s1⟩, s2, s3⟩ := HW.out _ (HK10.out.trans HKR_.out)
          rw [List.take_length, HKK.out]
          go_wp2
          go_ret
          exact ⟨by simp, HK.out.trans (HK10.out.trans HKR_.out)⟩

theorem exact_true (va : Int) (p : Option Addr) (z : Nat) (ca : List Cmp) (vb : Int) (p2 : Option Addr) (z2 : Nat) (cb : List Cmp) (w : World) (hca : CP w w.heap.size p ca) (hcb : CP w w.heap.size p2 cb) :
    Calls Tryd.prog 3 #[.agg #[.int .i64 va, .slice p ca.length z], .agg #[.int .i64 vb, .slice p2 cb.length z2]] w
      fun e w' => e = .returned (.bool true) ∧ Below w.heap.size w w' :=
  (exact_walk va ca p z vb cb p2 z2 w hca hcb).mono fun _ _ ⟨h1, h2⟩ => ⟨h1, h2.below⟩
end Go.Proofs.YtdekdefjfaoclaaDoor
