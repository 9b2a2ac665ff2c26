/- What is proved: what Plain of the check makes. -/
import Derived.Test.YtenoeondfdiklaaPr
namespace Go.Proofs.Ytenoeondfdiklaa
open Go.RowKit Go.Proofs.Heap Go.Proofs.Sch Go.Proofs.Wide

set_option maxRecDepth 20000 in
set_option maxHeartbeats 16000000 in
theorem chk_Plain (va : Int) (ca : List Cmp) (p : Option Addr) (z : Nat) (vb : Int) (cb : List Cmp) (p2 : Option Addr) (z2 : Nat) (w : World) (ha : Small ca) (hb : Small cb) (hca : CP w w.heap.size p ca) (hcb : CP w w.heap.size p2 cb) :
    Calls Try.prog 12 #[.agg #[.int .i64 va, .slice p ca.length z], .agg #[.int .i64 vb, .slice p2 cb.length z2]] w
      fun e w' => ∃ rp rc, e = .returned (.agg #[.int .i64 va, .int .i64 vb, .slice rp cb.length rc]) ∧ cb.length ≤ rc ∧ UP w' w'.heap.size rp ((cb.map (plainR ca)).map PR.rul) ∧ Keep (fun _ => False) w w' := by
  obtain ⟨i0, hi0, hz0, hz1, hz2⟩ := info_parts' info_sl
  obtain ⟨j0, hj0, hy0, hy1, hy2⟩ := info_parts' info_rul
  obtain ⟨w4, hw4, hb1, hb2, hb3, hb4, hs4, hk4⟩ := box4 w #[.int .i64 va, .slice p ca.length z] #[.int .i64 vb, .slice p2 cb.length z2] #[.int .i64 0, .int .i64 0, .slice none 0 0] #[.int .i64 va, .int .i64 vb, .slice none 0 0] 32 32 35 35
  have HK4 := hid hk4
  have HA := hid ha; have HB := hid hb
  have HS4 := hid hs4
  have hlow : ∀ wy, Keep (fun g => g = w.heap.size + 1 + 1 + 1) w4 wy → Keep (fun _ => False) w wy := fun wy hk => hk4.trans' hk (fun i hi e => by omega)
  have HLOW := hid hlow
  have HD : Hid (∀ wy, Keep (fun g => g = w.heap.size + 1 + 1 + 1) w4 wy → CP wy wy.heap.size p ca ∧ CP wy wy.heap.size p2 cb) := hid (fun wy hk =>
    ⟨CP.mono (CP.low hca (Low.keep0 (hlow wy hk))) (hlow wy hk).size, CP.mono (CP.low hcb (Low.keep0 (hlow wy hk))) (hlow wy hk).size⟩)
  clear hca hcb hk4 ha hb hlow
  go_enter Try.func12, Try.ntmps12
  go_upto_region 2 with fail
  rw [← hw4]
  clear hw4
  generalize hsb : w.heap.size = sb at *
  have HSB := hid hsb
  have HW : Hid (∀ wy, Keep (fun g => g = sb + 1 + 1 + 1) w4 wy → (wy.cell? ⟨sb, 0, none⟩ = some (.int .i64 va) ∧ wy.cell? ⟨sb, 1, none⟩ = some (.slice p ca.length z)) ∧ wy.cell? ⟨sb + 1, 1, none⟩ = some (.slice p2 cb.length z2)) := hid (fun wy hk =>
    ⟨⟨cell_of (hk.get hb1 (by omega)) (by rfl), cell_of (hk.get hb1 (by omega)) (by rfl)⟩, cell_of (hk.get hb2 (by omega)) (by rfl)⟩)
  have HRES : Hid (∀ wy, Keep (fun g => g = sb + 1 + 1 + 1) w4 wy → wy.heap[sb + 1 + 1]? = some (.cells #[.int .i64 0, .int .i64 0, .slice none 0 0] 35 (0, 0))) := hid (fun wy hk => hk.get hb3 (by omega))
  have HQ4 := hid hb4
  clear hb1 hb2 hb3 hb4 hs4 hsb
  have s3 := (HW.out _ (Keep.refl _ _)).2
  go_wp2_with fail
  clear s3
  go_loopw [21] (fun i wr => ∃ (k : Nat) (rp : Option Addr) (rc : Nat), k ≤ cb.length ∧ i = iV k ∧ wr.heap[sb + 1 + 1 + 1]? = some (.cells #[.int .i64 va, .int .i64 vb, .slice rp k rc] 35 (0, 0)) ∧ Ru wr w4.heap.size ((cb.take k).map (plainR ca)) (.slice rp k rc) ∧ Keep (fun g => g = sb + 1 + 1 + 1) w4 wr) (fun i _ => cb.length + 1 - (intOf i).toNat)
  case atStart => exact ⟨0, none, 0, Nat.zero_le _, rfl, HQ4.out, Ru.nil _ _, Keep.refl _ _⟩
  case round =>
    generalize wr = wo at *
    obtain ⟨k, rp, rc, hk, rfl, hq, hru, hkr⟩ := hrel
    have HQ := hid hq; have HRU := hid hru; have HKR := hid hkr
    clear hq hru hkr
    by_cases hlt : k < cb.length
    · obtain ⟨c, hck⟩ : ∃ c, cb[k]? = some c := ⟨cb[k], by simp [hlt]⟩
      have HTK := hid (take_next hck)
      have hcl := HB.out.2 c (List.mem_of_getElem? hck)
      obtain ⟨b, off, fq, fk, rfl, hb, c0, c1, c2, _, hff⟩ := CP.at (HD.out _ HKR.out).2 hck
      have hin : (0 : Int) ≤ (k : Int) ∧ (k : Int) < (cb.length : Int) := ⟨by omega, by omega⟩
      obtain ⟨ci, cn, cf⟩ := c
      simp only at hcl c0 c1 c2 hff HTK
      have HPR : Hid (plainR ca ⟨ci, cn, cf⟩ = if ca.any (fun d => decide (d.id = ci)) = true then ⟨ci, ci, cf.map (plainI (foundC ca ci))⟩ else ⟨ci, 0, []⟩) := hid rfl
      obtain ⟨w6, hw6, hb5, hb6, hs6, hk6⟩ := box2 wo #[.int .i64 ci, .string cn, .slice fq cf.length fk] #[.int .i64 ci, .int .i64 0, .slice none 0 0] 24 27
      have HK6 := hid hk6
      have HFF : Hid (∀ wy, Keep (fun _ => False) wo wy → FP wy wy.heap.size fq cf) := hid (fun wy hk => FP.mono (FP.low hff (Low.keep0 hk)) hk.size)
      have HKQ : Hid (∀ wy, Keep (fun _ => False) wo wy → Keep (fun g => g = sb + 1 + 1 + 1) w4 wy) := hid (fun wy hk => HKR.out.trans' hk (fun i hi e => e.elim))
      clear hck hb hff hk6 hs6
      go_upto_region 6 with fail
      rw [← hw6]
      clear hw6 c0 c1 c2
      generalize hcbk : wo.heap.size = cbk at *
      have HCBK := hid hcbk
      have HB5 := hid hb5; have HB6 := hid hb6
      clear hb5 hb6 hcbk
      have t0 : w6.cell? ⟨cbk, 0, none⟩ = some (.int .i64 ci) := cell_of HB5.out (by rfl)
      obtain ⟨⟨s0, s1⟩, s3⟩ := HW.out _ (HKQ.out _ HK6.out)
      go_wp2_with fail
      refine (find_co ci va ca p z _ HA.out (HD.out _ (HKQ.out _ HK6.out)).1).mono ?_
      rintro r w7 ⟨gq, gz, rfl, hgg, hk7⟩
      have HFS := hid (foundC_small HA.out ci)
      generalize ca.any (fun d => decide (d.id = ci)) = B at *
      generalize foundC ca ci = co at *
      obtain ⟨oi, on, fs⟩ := co
      simp only at hgg HFS ⊢
      obtain ⟨w8, hw8, hb8, hs8, hk8⟩ := box1 w7 #[.int .i64 oi, .string on, .slice gq fs.length gz] 24
      have HK68 := hid (hk7.trans hk8)
      have HK67 := hid hk7
      have HK8 := hid (HK6.out.trans (hk7.trans hk8))
      have HGO := hid (owns_keep hgg (fun g hg => hk8.block g (hgg.lt g hg).2 id))
      clear hgg hk7 hk8 hs8 s0 s1 s3 t0
      go_upto_region 7 with fail
      rw [← hw8]
      clear hw8
      have HB8 := hid hb8
      generalize hfbk : w7.heap.size = fbk at *
      have HFBK := hid hfbk
      clear hfbk hb8
      go_upto_if 35 with fail
      go_cut [12] from 22 to 61 (fun _ wx => ∃ v, wx.heap[cbk + 1]? = some (.cells #[.int .i64 ci, .int .i64 (plainR ca ⟨ci, cn, cf⟩).old, v] 27 (0, 0)) ∧ Ex wx cbk (plainR ca ⟨ci, cn, cf⟩).es v ∧ Keep (fun _ => False) wo wx)
      case first =>
        cases B
        · have hpr : plainR ca ⟨ci, cn, cf⟩ = ⟨ci, 0, []⟩ := by rw [HPR.out]; rfl
          have HP := hid hpr
          have HR8 := hid (HK68.out.get HB6.out id)
          clear hpr
          go_wp2
          go_meet
          case rel => exact ⟨.slice none 0 0, by rw [HP.out]; exact HR8.out, by rw [HP.out]; exact Ex.nil _ _, HK8.out⟩
        · have hpr : plainR ca ⟨ci, cn, cf⟩ = ⟨ci, ci, cf.map (plainI ⟨oi, on, fs⟩)⟩ := by rw [HPR.out]; rfl
          have HP := hid hpr
          have hr8 := HK68.out.get HB6.out id
          have t0 : w8.cell? ⟨cbk, 0, none⟩ = some (.int .i64 ci) := cell_of (HK68.out.get HB5.out id) (by rfl)
          have t1 : w8.cell? ⟨cbk + 1, 1, none⟩ = some (.int .i64 0) := cell_of hr8 (by rfl)
          have f1 : w8.frozen? ⟨cbk + 1, 1, none⟩ = false := free_of hr8 1
          obtain ⟨w9, hw9⟩ : ∃ w9, w9 = w8.setCell ⟨cbk + 1, 1, none⟩ (.int .i64 ci) := ⟨_, rfl⟩
          have HR9 : Hid (w9.heap[cbk + 1]? = some (.cells #[.int .i64 ci, .int .i64 ci, .slice none 0 0] 27 (0, 0))) := hid (by rw [hw9]; exact hsc_same hr8 1 _)
          have HK89 : Hid (Keep (fun g => g = cbk + 1) w8 w9) := hid (by rw [hw9]; exact (Keep.refl (fun g => g = cbk + 1) w8).setCell (p := ⟨cbk + 1, 1, none⟩) rfl _)
          clear hr8 hpr
          go_upto_region 9 with fail
          rw [← hw9]
          clear hw9 t0 t1 f1
          have HK19 : Hid (∀ wy, Keep (fun g => g = cbk + 1) w9 wy → Keep (fun _ => False) wo wy) := hid (fun wy hk => HK8.out.trans' (HK89.out.trans hk) (fun i hi e => by have := HCBK.out; omega))
          have HC9 : Hid (∀ wy, Keep (fun g => g = cbk + 1) w9 wy → (wy.cell? ⟨cbk, 2, none⟩ = some (.slice fq cf.length fk)) ∧ wy.cell? ⟨fbk, 0, none⟩ = some (.int .i64 oi) ∧ wy.cell? ⟨fbk, 1, none⟩ = some (.string on) ∧ wy.cell? ⟨fbk, 2, none⟩ = some (.slice gq fs.length gz)) := hid (fun wy hk => by
            have hk' := HK89.out.trans hk
            have h1 := hk'.get (HK68.out.get HB5.out id) (by omega)
            have h2 := hk'.get HB8.out (by have h3 := lt_of_heap HB6.out; have h4 := HK67.out.size; have h5 := HFBK.out; omega)
            exact ⟨cell_of h1 (by rfl), cell_of h2 (by rfl), cell_of h2 (by rfl), cell_of h2 (by rfl)⟩)
          have HGF : Hid (∀ wy, Keep (fun g => g = cbk + 1) w9 wy → FP wy wy.heap.size gq fs) := hid (fun wy hk => fp_own rfl (owns_keep HGO.out (fun g hg => (HK89.out.trans hk).block g (HGO.out.lt g hg).2 (fun e => by
            have h1 := (HGO.out.lt g hg).1; have h3 := lt_of_heap HB6.out; omega))))
          have t2 := (HC9.out _ (Keep.refl _ _)).1
          go_wp2_with fail
          clear t2
          go_loopw [42] (fun i wr => ∃ (j : Nat) (v : Value), j ≤ cf.length ∧ i = iV j ∧ wr.heap[cbk + 1]? = some (.cells #[.int .i64 ci, .int .i64 ci, v] 27 (0, 0)) ∧ Ex wr w9.heap.size ((cf.take j).map (plainI ⟨oi, on, fs⟩)) v ∧ Keep (fun g => g = cbk + 1) w9 wr) (fun i _ => cf.length + 1 - (intOf i).toNat)
          case atStart => exact ⟨0, .slice none 0 0, Nat.zero_le _, rfl, HR9.out, Ex.nil _ _, Keep.refl _ _⟩
          case round =>
            obtain ⟨j, v, hj, rfl, hrb, hex, hkj⟩ := hrel
            obtain ⟨bs, e1, e2, e3⟩ := hex
            have hlen : ((cf.take j).map (plainI ⟨oi, on, fs⟩)).length = j := by rw [List.length_map, List.length_take]; omega
            have HE1 := hid e1; have HE2 := hid e2; have HE3 := hid e3; have HRB := hid hrb; have HKJ := hid hkj; have HLEN := hid hlen
            obtain ⟨vp, vc, rfl⟩ := owns_val e2
            rw [hlen] at HE2 HRB
            clear e1 e2 e3 hrb hkj
            by_cases hjlt : j < cf.length
            · obtain ⟨f, hfj⟩ : ∃ f, cf[j]? = some f := ⟨cf[j], by simp [hjlt]⟩
              have HTJ : Hid ((cf.take (j + 1)).map (plainI ⟨oi, on, fs⟩) = (cf.take j).map (plainI ⟨oi, on, fs⟩) ++ [plainI ⟨oi, on, fs⟩ f]) := hid (by rw [take_next hfj, List.map_append]; rfl)
              obtain ⟨b2, off2, rfl, hb2, d0, d1, d2⟩ := FP.at (HFF.out _ (HK19.out _ HKJ.out)) hfj
              have hin2 : (0 : Int) ≤ (j : Int) ∧ (j : Int) < (cf.length : Int) := ⟨by omega, by omega⟩
              obtain ⟨fn, fkd, fct⟩ := f
              simp only at d0 d1 d2 HTJ
              obtain ⟨wz, hwz, hbz, hsz, hkz⟩ := box1 wr #[.string fn, .int .i64 fkd, .int .i64 fct] 49
              have HKZ := hid hkz
              have HZJ := hid (HKJ.out.trans' hkz (fun i hi e => e.elim))
              clear hfj hb2 hsz hkz
              go_upto_region 12 with fail
              rw [← hwz]
              clear hwz d0 d1 d2
              generalize hzb : wr.heap.size = zb at *
              have HZB := hid hzb
              clear hzb
              have x0 : wz.drew.cell? ⟨zb, 0, none⟩ = some (.string fn) := cell_of hbz (by rfl)
              have x1 : wz.drew.cell? ⟨zb, 1, none⟩ = some (.int .i64 fkd) := cell_of hbz (by rfl)
              have x2 : wz.drew.cell? ⟨zb, 2, none⟩ = some (.int .i64 fct) := cell_of hbz (by rfl)
              have y2 : wz.drew.cell? ⟨cbk + 1, 2, none⟩ = some (.slice vp j vc) := cell_of (HKZ.out.get HRB.out id) (by rfl)
              obtain ⟨_, o0, o1, o2⟩ := HC9.out _ HZJ.out.drew
              clear hbz
              refine Plan.wp_region_pl [(false, 0, []), (false, 1, []), (false, 2, []), (false, 3, []), (true, 4, [1, 0]), (true, 5, [1, 0]), (true, 6, []), (false, 7, []), (true, 8, [])] (by kernel_rfl) (by kernel_rfl) ?_
              iterate 4 (refine Plan.pl_st rfl ?_; go_big_quiet_step (fail); refine wpQuiet_nil ?_)
              refine Plan.pl_ac rfl ?_
              go_wp2_with fail
              refine (chk_plain ⟨oi, on, fs⟩ ⟨fn, fkd, fct⟩ gq gz _ HFS.out (HGF.out _ HZJ.out.drew)).mono ?_
              rintro r wp ⟨nb, rfl, hnb, hnl, hkp⟩
              have HKP := hid (HKZ.out.drew.trans hkp)
              obtain ⟨wq, hwq, hbq, hsq, hkq⟩ := box1 wp #[bV nb] 50
              have HNB := hid (hkq.get hnb id)
              have HKQ2 := hid (HKP.out.trans hkq)
              have hrq := HKQ2.out.get HRB.out id
              have hrp := HKP.out.get HRB.out id
              have y3 : wp.cell? ⟨cbk + 1, 2, none⟩ = some (.slice vp j vc) := cell_of hrp (by rfl)
              have y4 : wq.cell? ⟨cbk + 1, 2, none⟩ = some (.slice vp j vc) := cell_of hrq (by rfl)
              have HRQ := hid hrq
              have hoq := owns_keep HE2.out (fun g hg => HKQ2.out.block g (HE2.out.lt g hg).2 id)
              have HOQ := hid hoq
              clear hnb hnl hkp hsq hkq x0 x1 x2 y2 o0 o1 o2 hrp hrq hoq
              go_wp2
              refine Plan.plQ_mk ?_ ?_
              · iterate 2 (refine Plan.chk_st rfl ?_ ?_; focus (go_big_quiet_step (fail); exact wpQuiet_nil rfl))
                exact Plan.chk_end
              refine Plan.pl_ac rfl ?_
              go_wp2
              rw [← hwq]
              have HWQ := hid hwq
              clear hwq
              generalize hpb : wp.heap.size = pb at *
              clear hpb
              refine Plan.plQ_mk ?_ ?_
              · iterate 2 (refine Plan.chk_st rfl ?_ ?_; focus (go_big_quiet_step (fail); exact wpQuiet_nil rfl))
                exact Plan.chk_end
              refine Plan.pl_ac rfl ?_
              refine wpList_append_rd rfl _ _ _ rfl w9.heap.size _ i0 _ 1 24 Try.underlying25 hi0 hz0 hz1 hz2 rfl (by decide) _ j _ (by rfl) HOQ.out _ 1 [bV nb] (by rfl) (rd_block hbq (by simp) (by simp [bV, Value.oneCell'])) (by unfold maxLen; omega) (by omega) (by have h1 := HKJ.out.size; have h2 := HKQ2.out.size; omega) ?_
              intro v' w5 hown5 hgrow5 hat5 hn5
              obtain ⟨vq, vd, rfl⟩ := owns_val hown5
              have hrl := lt_of_heap HRQ.out
              have hr5 := (hgrow5.block (cbk + 1) hrl (fun e => by have h1 := (HOQ.out.lt _ e.symm).1; have h2 := lt_of_heap HR9.out; omega)).trans HRQ.out
              have z0 : w5.cell? ⟨cbk + 1, 2, none⟩ = some (.slice vp j vc) := cell_of hr5 (by rfl)
              have z1 : w5.frozen? ⟨cbk + 1, 2, none⟩ = false := free_of hr5 2
              have HEX := hid (ex_push' HLEN.out HE1.out HOQ.out (fun i x b hx hb => HKQ2.out.get (HE3.out i x b hx hb) id) HNB.out hgrow5 hown5)
              have HFIN : Hid ((w5.setCell ⟨cbk + 1, 2, none⟩ (.slice vq (j + 1) vd)).heap[cbk + 1]? = some (.cells #[.int .i64 ci, .int .i64 ci, .slice vq (j + 1) vd] 27 (0, 0)) ∧ Ex (w5.setCell ⟨cbk + 1, 2, none⟩ (.slice vq (j + 1) vd)) w9.heap.size ((cf.take (j + 1)).map (plainI ⟨oi, on, fs⟩)) (.slice vq (j + 1) vd) ∧ Keep (fun g => g = cbk + 1) w9 (w5.setCell ⟨cbk + 1, 2, none⟩ (.slice vq (j + 1) vd))) := hid (by
                refine ⟨hsc_same hr5 2 _, ?_, ?_⟩
                · rw [HTJ.out]
                  exact HEX.out.set hr5 (by decide) (by decide) 2 _
                · refine Keep.setCell (S := fun g => g = cbk + 1) ?_ (p := ⟨cbk + 1, 2, none⟩) rfl _
                  exact (HKJ.out.trans' HKQ2.out (fun i hi e => e.elim)).grown hgrow5 (fun g hg => .inl (HOQ.out.lt _ hg).1))
              clear hown5 hgrow5 hat5 hn5 hr5 hrl hbq y3 y4
              go_wp2
              refine Plan.plQ_mk Plan.chk_end ?_
              iterate 1 (refine Plan.pl_st rfl ?_; go_big_quiet_step (fail); refine wpQuiet_nil ?_)
              refine Plan.pl_ac rfl ?_
              go_wp2
              refine Plan.plQ_mk Plan.chk_end ?_
              refine Plan.pl_end ?_
              go_wp2
              go_roundw
              case rel => exact ⟨j + 1, .slice vq (j + 1) vd, by omega, by go_num, HFIN.out.1, HFIN.out.2.1, HFIN.out.2.2⟩
              case measure => simp [intOf]; omega
            · obtain rfl : j = cf.length := by omega
              have g0 : decide ((cf.length : Int) < (cf.length : Int)) = false := decide_eq_false (by omega)
              have HTL : Hid (Ex wr cbk (cf.map (plainI ⟨oi, on, fs⟩)) (.slice vp cf.length vc)) := hid (by
                refine Ex.low (base := w9.heap.size) ?_ (by have h2 := lt_of_heap HR9.out; omega)
                have hlen2 : (cf.map (plainI ⟨oi, on, fs⟩)).length = cf.length := List.length_map ..
                have h1 := HE1.out; have h3 := HE3.out
                rw [List.take_length] at h1 h3
                exact ⟨bs, h1, by rw [hlen2]; exact HE2.out, h3⟩)
              go_wp2
              go_meet
              case rel => exact ⟨.slice vp cf.length vc, by rw [HP.out]; exact HRB.out, by rw [HP.out]; exact HTL.out, HK19.out _ HKJ.out⟩
      case rest =>
        obtain ⟨v, hrc, hexc, hkc⟩ := hcut
        have hnew : (plainR ca ⟨ci, cn, cf⟩).new = ci := by unfold plainR; split <;> rfl
        have HNEW := hid hnew
        have HTK2 : Hid ((cb.take (k + 1)).map (plainR ca) = (cb.take k).map (plainR ca) ++ [plainR ca ⟨ci, cn, cf⟩]) := hid (by rw [HTK.out, List.map_append]; rfl)
        have hcbl := HB.out.1
        have HRC := hid hrc; have HEXC := hid hexc; have HKC := hid hkc
        clear hnew hrc hexc hkc HPR
        generalize plainR ca ⟨ci, cn, cf⟩ = R at *
        obtain ⟨rn, ro, res⟩ := R
        have hrn : rn = ci := HNEW.out
        subst hrn
        simp only at HRC HEXC
        obtain ⟨vp, vc, rfl, _⟩ := HEXC.out.val
        obtain ⟨vs, h1, h2, h3⟩ := HRU.out
        have hlen : ((cb.take k).map (plainR ca)).length = k := by rw [List.length_map, List.length_take]; omega
        rw [hlen] at h2
        have HV1 := hid h1; have HV3 := hid h3; have HLEN := hid hlen
        have HOW := hid (owns_keep h2 (fun g hg => HKC.out.block g (h2.lt g hg).2 id))
        have hqc := HKC.out.get HQ.out id
        have HQC := hid hqc
        have q2 : wc.cell? ⟨sb + 1 + 1 + 1, 2, none⟩ = some (.slice rp k rc) := cell_of hqc (by rfl)
        have r0 : wc.cell? ⟨cbk + 1, 0, none⟩ = some (.int .i64 rn) := cell_of HRC.out (by rfl)
        have r1 : wc.cell? ⟨cbk + 1, 1, none⟩ = some (.int .i64 ro) := cell_of HRC.out (by rfl)
        have r2 : wc.cell? ⟨cbk + 1, 2, none⟩ = some (.slice vp res.length vc) := cell_of HRC.out (by rfl)
        have hsz := HKC.out.size
        have hsz2 := HKR.out.size
        have hqs := lt_of_heap HQ4.out
        clear h1 h2 h3 hlen hqc
        go_wp2_with (at_builtin; go_loud (refine wpList_append_rd rfl (.tmp 56) (.tmp 58) _ rfl w4.heap.size _ j0 _ 3 40 Try.underlying33 hj0 hy0 hy1 hy2 rfl (by decide) _ k _ (by rfl) (HOW.out.alloc _) _ 1 [.int .i64 rn, .int .i64 ro, .slice vp res.length vc] (by rfl) (rd_block (heap_alloc_new wc _) (by simp) (by simp [Value.oneCell'])) (by unfold maxLen; have := HB.out.1; omega) (by have := HB.out.1; omega) (by simp; omega) ?_); go_loud (intro v' w5 hown5 hgrow5 hat5 hn5; obtain ⟨vq, vd, rfl⟩ := owns_val hown5; have HO5 := hid hown5; have HG5 := hid hgrow5; have hq5 := (hgrow5.block (sb + 1 + 1 + 1) (by simp; omega) (fun e => by have h1 := (HOW.out.lt _ e.symm).1; omega)).trans (((Keep.refl (fun _ => False) wc).alloc _).get HQC.out id); have HQ5 := hid hq5; have z0 : w5.cell? ⟨sb + 1 + 1 + 1, 2, none⟩ = some (.slice rp k rc) := cell_of hq5 (by rfl); have z1 : w5.frozen? ⟨sb + 1 + 1 + 1, 2, none⟩ = false := free_of hq5 2; clear hown5 hgrow5 hat5 hn5 hq5))
        have HFIN : Hid ((w5.setCell ⟨sb + 1 + 1 + 1, 2, none⟩ (.slice vq (k + 1) vd)).heap[sb + 1 + 1 + 1]? = some (.cells #[.int .i64 va, .int .i64 vb, .slice vq (k + 1) vd] 35 (0, 0)) ∧ Ru (w5.setCell ⟨sb + 1 + 1 + 1, 2, none⟩ (.slice vq (k + 1) vd)) w4.heap.size ((cb.take k).map (plainR ca) ++ [⟨rn, ro, res⟩]) (.slice vq (k + 1) vd) ∧ Keep (fun g => g = sb + 1 + 1 + 1) w4 (w5.setCell ⟨sb + 1 + 1 + 1, 2, none⟩ (.slice vq (k + 1) vd))) := hid (by
          refine ⟨hsc_same HQ5.out 2 _, ?_, ?_⟩
          · refine Ru.set ?_ HQ5.out (by decide) (by decide) (by decide) 2 _
            have hka := (HKC.out.alloc (.cells #[.int .i64 rn, .int .i64 ro, .slice vp res.length vc] 27))
            exact ru_push' (r := ⟨rn, ro, res⟩) HLEN.out HV1.out (HOW.out.alloc _) (fun i r x hr hx => (HV3.out i r x hr hx).keep0 hka) ((HEXC.out.keep0 ((Keep.refl _ _).alloc _)).low (by have := HCBK.out; omega)) HG5.out HO5.out
          · refine Keep.setCell (S := fun g => g = sb + 1 + 1 + 1) ?_ (p := ⟨sb + 1 + 1 + 1, 2, none⟩) rfl _
            exact ((HKR.out.trans' HKC.out (fun i hi e => e.elim)).alloc _).grown HG5.out (fun g hg => .inl (HOW.out.lt _ hg).1))
        go_wp2
        go_roundw
        case rel => exact ⟨k + 1, vq, vd, by omega, by go_num, HFIN.out.1, by rw [HTK2.out]; exact HFIN.out.2.1, HFIN.out.2.2⟩
        case measure => simp [intOf]; omega
    · obtain rfl : k = cb.length := by omega
      have g0 : decide ((cb.length : Int) < (cb.length : Int)) = false := decide_eq_false (by omega)
      have q0 : wo.cell? ⟨sb + 1 + 1 + 1, 0, none⟩ = some (.int .i64 va) := cell_of HQ.out (by rfl)
      have q1 : wo.cell? ⟨sb + 1 + 1 + 1, 1, none⟩ = some (.int .i64 vb) := cell_of HQ.out (by rfl)
      have q2 : wo.cell? ⟨sb + 1 + 1 + 1, 2, none⟩ = some (.slice rp cb.length rc) := cell_of HQ.out (by rfl)
      have hr := HRES.out _ HKR.out
      have HR := hid hr
      have f0 : wo.frozen? ⟨sb + 1 + 1, 0, none⟩ = false := free_of hr 0
      have f1 : wo.frozen? ⟨sb + 1 + 1, 1, none⟩ = false := free_of hr 1
      have f2 : wo.frozen? ⟨sb + 1 + 1, 2, none⟩ = false := free_of hr 2
      have r0 : wo.cell? ⟨sb + 1 + 1, 0, none⟩ = some (.int .i64 0) := cell_of hr (by rfl)
      have r1 : wo.cell? ⟨sb + 1 + 1, 1, none⟩ = some (.int .i64 0) := cell_of hr (by rfl)
      have r2 : wo.cell? ⟨sb + 1 + 1, 2, none⟩ = some (.slice none 0 0) := cell_of hr (by rfl)
      clear hr
      go_wp2
      (try simp only [Exit.inBlock, Exit.then])
      obtain ⟨wf, hwf⟩ : ∃ wf, wf = ((wo.setCell ⟨sb + 1 + 1, 0, none⟩ (.int .i64 va)).setCell ⟨sb + 1 + 1, 1, none⟩ (.int .i64 vb)).setCell ⟨sb + 1 + 1, 2, none⟩ (.slice rp cb.length rc) := ⟨_, rfl⟩
      have HRF : Hid (wf.heap[sb + 1 + 1]? = some (.cells #[.int .i64 va, .int .i64 vb, .slice rp cb.length rc] 35 (0, 0))) := hid (by
        rw [hwf]
        exact hsc_same (hsc_same (hsc_same HR.out 0 _) 1 _) 2 _)
      have hruf : Ru wf w4.heap.size ((cb.take cb.length).map (plainR ca)) (.slice rp cb.length rc) := by
        rw [hwf]
        refine Ru.set (Ru.set (Ru.set HRU.out HR.out (by decide) (by decide) (by decide) 0 _) (hsc_same HR.out 0 _) (by decide) (by decide) (by decide) 1 _) (hsc_same (hsc_same HR.out 0 _) 1 _) (by decide) (by decide) (by decide) 2 _
      rw [List.take_length] at hruf
      have hkf : Keep (fun _ => False) w wf := by
        rw [hwf]
        have h1 := HLOW.out _ HKR.out
        have h2 := HSB.out
        exact ((h1.setCell_new (p := ⟨sb + 1 + 1, 0, none⟩) (by simp only; omega) _).setCell_new (p := ⟨sb + 1 + 1, 1, none⟩) (by simp only; omega) _).setCell_new (p := ⟨sb + 1 + 1, 2, none⟩) (by simp only; omega) _
      rw [← hwf]
      clear hwf
      refine bodyPost_ret (results_c rfl _ rfl (run_loadVar_row _ (sb + 1 + 1) _ 35 _ _ _ HRF.out Try.underlying35 rfl (by kernel_rfl))) rfl ?_
      have hl2 : (cb.map (plainR ca)).length = cb.length := List.length_map ..
      refine ⟨rp, rc, rfl, ?_, ?_, hkf⟩
      · obtain ⟨vs, h1, h2, h3⟩ := hruf
        rw [hl2] at h2
        exact owns_room h2
      · have h2 := hruf
        rw [← hl2] at h2
        exact h2.up
end Go.Proofs.Ytenoeondfdiklaa
