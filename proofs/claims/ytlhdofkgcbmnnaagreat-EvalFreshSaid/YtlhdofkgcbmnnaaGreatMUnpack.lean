/- What is proved: what layout.Unpack answers: the value of a row, or the error. -/
import Derived.Test.YtlhdofkgcbmnnaaGreatMSchAt
import Derived.Test.YtlhdofkgcbmnnaaGreatMExLaw2
import Derived.Test.YtlhdofkgcbmnnaaGreatMChk3
import Derived.Test.YtlhdofkgcbmnnaaGreatMSchFind
import Derived.Test.YtlhdofkgcbmnnaaGreatMHeap
import Derived.Test.YtlhdofkgcbmnnaaGreatMMapStr
import Derived.Maps.Own
import Derived.Maps.OwnOps
import Derived.Maps.Views
namespace Go.Proofs.YtlhdofkgcbmnnaaGreat
open Go.RowKit Go.Proofs.Heap Go.Proofs.Sch Go.Proofs.Wide

theorem ne_fld : 83 ≠ 86 := by decide
set_option maxRecDepth 20000 in
set_option maxHeartbeats 8000000 in
theorem lay_unpack (fs : List Fld) (p : Option Addr) (cap : Nat) (s : ByteArray) (w : World) (hcap : fs.length ≤ cap) (hs : s.size ≤ 9223372036854775807) (hf : FP w w.heap.size p fs) :
    Calls Tryz.prog 40 #[.slice p fs.length cap, .string s] w fun r w' => ∃ a c, r = .returned (.tuple #[.slice a (unV fs s).length c, iV (unE fs s)]) ∧ w'.ownsRow w.heap.size 86 3 (.slice a (unV fs s).length c) (unV fs s).length ((unV fs s).flatMap wcl) ∧ Keep (fun _ => False) w w' := by
  obtain ⟨i0, hi0, hz0, hz1, hz2⟩ := info_parts' info_wi
  have HF := hid hf
  have HCP := hid hcap
  clear hf hcap
  go_enter Tryz.func40, Tryz.ntmps40
  go_wp2_with fail
  refine (lay_of fs p cap _ HF.out).mono ?_
  rintro r w1 ⟨pa, pc, rfl, hown, hk1⟩
  obtain ⟨w2, hw2, hb2, hs2, hk2⟩ := box1 w1 #[.int .i64 (ofSize fs : Int), .slice pa (ofAt fs).length pc] 153
  have HK2 := hid (hk1.trans hk2)
  have HOWN := hid (owns_keep (w' := w2) hown (fun k hk => hk2.block k (hown.lt k hk).2 id))
  have HB2 := hid hb2
  have HP2 : Hid (w.heap.size ≤ w2.heap.size) := hid HK2.out.size
  clear hown hk1 hk2 hb2 hs2
  go_upto_region 2 with fail
  rw [← hw2]
  clear hw2
  generalize w1.heap.size = pb at *
  have HSZ : Hid (layC fs = 0 → ofSize fs = pSize fs) := hid (fun h => by unfold ofSize; rw [if_pos h])
  have HAT : Hid (layC fs = 0 → ofAt fs = (pRun fs).2.2) := hid (fun h => by unfold ofAt; rw [if_pos h])
  have HUE : Hid (unE fs s = if layC fs = 0 then (if s.size = pSize fs then (if unOk fs s = true then 0 else 4) else 4) else layC fs) := hid rfl
  have HUV : Hid (∀ n, unE fs s = n → n ≠ 0 → unV fs s = []) := hid (fun n h hn => by unfold unV; rw [if_neg (by rw [h]; exact hn)])
  have HLC := hid (fun h : layC fs = 0 => layC_zero h)
  generalize hz : layC fs = z at *
  by_cases h0 : z = 0
  rotate_left
  · have g3 : ((z : Int) != 0) = true := by rw [bne, beq_eq_false_iff_ne.2 (show (z : Int) ≠ 0 by omega)]; rfl
    have g4 : (z != 0) = true := by rw [bne, beq_eq_false_iff_ne.2 h0]; rfl
    have G1 : Hid (unE fs s = z) := hid (by rw [HUE.out, if_neg h0])
    have G2 := hid (HUV.out z G1.out h0)
    clear h0 hz
    go_wp2
    (try simp only [Exit.inBlock, Exit.then])
    refine bodyPost_ret (results_tt2 rfl _) rfl ?_
    rw [G1.out, G2.out]
    exact ⟨none, 0, rfl, World.ownsRow_nil _ _ _ _, HK2.out⟩
  subst h0
  have HOS := hid (HSZ.out rfl)
  have HAT2 := hid (HAT.out rfl)
  obtain ⟨hl8, hok⟩ := HLC.out rfl
  have HOK := hid hok
  have HZ := hid hz
  have HUE2 : Hid (unE fs s = if s.size = pSize fs then (if unOk fs s = true then 0 else 4) else 4) := hid (by rw [HUE.out, if_pos rfl])
  clear HUE HSZ HAT HLC hok hz
  rw [HAT2.out, HOS.out] at HB2
  rw [HAT2.out] at HOWN
  rw [HOS.out, HAT2.out]
  have hal : (pRun fs).2.2.length = fs.length := by have := (at_of fs fs.length (Nat.le_refl _)).1; rwa [List.take_length] at this
  rw [hal] at HB2 HOWN ⊢
  clear hal
  have HBC : Hid (∀ wy, Keep (fun _ => False) w2 wy → wy.cell? ⟨pb, 0, none⟩ = some (.int .i64 (pSize fs : Int)) ∧ wy.cell? ⟨pb, 1, none⟩ = some (.slice pa fs.length pc)) := hid (fun wy hk =>
    ⟨cell_of (hk.get HB2.out id) (by rfl), cell_of (hk.get HB2.out id) (by rfl)⟩)
  have d0 := (HBC.out _ (Keep.refl _ _)).1
  by_cases hsz : s.size = pSize fs
  rotate_left
  · have G1 : Hid (unE fs s = 4) := hid (by rw [HUE2.out, if_neg hsz])
    have G2 := hid (HUV.out 4 G1.out (by decide))
    have g1 : ((s.size : Int) != (pSize fs : Int)) = true := by rw [bne, beq_eq_false_iff_ne.2 (show (s.size : Int) ≠ (pSize fs : Int) by omega)]; rfl
    have g2 : (s.size != pSize fs) = true := by rw [bne, beq_eq_false_iff_ne.2 hsz]; rfl
    clear hsz
    generalize pSize fs = sz at *
    go_wp2
    (try simp only [Exit.inBlock, Exit.then])
    refine bodyPost_ret (results_tt2 rfl _) rfl ?_
    rw [G1.out, G2.out]
    exact ⟨none, 0, rfl, World.ownsRow_nil _ _ _ _, HK2.out⟩
  have HUE3 : Hid (unE fs s = if unOk fs s = true then 0 else 4) := hid (by rw [HUE2.out, if_pos hsz])
  have HEL : Hid (∀ (k j : Nat) (f : Fld), fs[k]? = some f → j < f.count.toNat → upN (pRun (fs.take k)).1 (szN f.kind) + j * szN f.kind + szN f.kind ≤ s.size) := hid (fun k j f h1 h2 => by rw [hsz]; exact pSize_ge HOK.out h1 h2)
  have HPS : Hid (s.size = pSize fs) := hid hsz
  rw [← hsz] at d0 ⊢
  clear hsz HUE2
  go_wp2_with fail
  clear d0
  have HW2 : Hid (∀ wy, Keep (fun _ => False) w2 wy → Keep (fun _ => False) w wy) := hid (fun wy h => HK2.out.trans h)
  go_loopw [8, 9, 10, 11, 12, 13, 14, 15, 33] (fun vv _ _ _ _ _ _ _ i wr => ∃ (k : Nat) (rs : List WI), k ≤ fs.length ∧ i = iV k ∧ rs = (unRun s (fs.take k)).2 ∧ unFl s fs k = true ∧ rs.length ≤ 8 * k ∧ wr.ownsRow w2.heap.size 86 3 vv rs.length (rs.flatMap wcl) ∧ Keep (fun _ => False) w2 wr) (fun _ _ _ _ _ _ _ _ i _ => fs.length + 1 - (RowKit.intOf i).toNat)
  case atStart => exact ⟨0, [], by omega, rfl, rfl, rfl, by simp, World.ownsRow_nil _ _ _ _, Keep.refl _ _⟩
  case round =>
    obtain ⟨k, rs, hk, rfl, hrs, hfl, hrl, hov, hkw⟩ := hrel
    obtain ⟨va, vc, rfl⟩ := owns_val hov
    have HRS := hid hrs; have HFL := hid hfl; have HRL := hid hrl; have HOV := hid hov; have HKW := hid hkw
    clear hrs hfl hrl hov hkw
    by_cases hlt : k < fs.length
    · obtain ⟨f, hfk⟩ : ∃ f, fs[k]? = some f := ⟨fs[k], by simp [hlt]⟩
      have hof := HOK.out f (List.mem_of_getElem? hfk)
      obtain ⟨lb, off, rfl, hb, c0, c1, c2⟩ := FP.at (FP.low HF.out (Low.keep0 (HW2.out _ HKW.out))) hfk
      have hin : (0 : Int) ≤ (k : Int) ∧ (k : Int) < (fs.length : Int) := ⟨by omega, by omega⟩
      have hs8 := sz_le f.kind
      have hat : ((pRun fs).2.2.map iV)[k]? = some (iV (upN (pRun (fs.take k)).1 (szN f.kind))) := by
        have h := (at_of fs fs.length (Nat.le_refl _)).2 k f hlt hfk
        rw [List.take_length] at h
        rw [List.getElem?_map, h]; rfl
      have hpl := (pRun_le HOK.out k hk).1
      have hup := up_le (pRun (fs.take k)).1 (szN f.kind) hof.1
      have hel := fun j => HEL.out k j f hfk
      have hfn := unFl_next (s := s) hfk
      have hbad := fun j => un_bad (s := s) (j := j) hfk
      have hnx : (unRun s (fs.take (k + 1))).2 = rs ++ unEl s f.kind (upN (pRun (fs.take k)).1 (szN f.kind)) f.count.toNat := by
        rw [unRun_next hfk, HRS.out, ← (un_inv s fs k hk).1]; rfl
      rw [HFL.out] at hfn
      obtain ⟨ga, rfl⟩ := owns_some HOWN.out (by omega)
      obtain ⟨at_, hate⟩ : ∃ a, upN (pRun (fs.take k)).1 (szN f.kind) = a := ⟨_, rfl⟩
      rw [hate] at hat hup hel hfn hbad hnx
      have hca : ∀ wy, Keep (fun _ => False) w2 wy → wy.cell? ⟨ga, k, none⟩ = some (.int .i64 (at_ : Int)) := fun wy hk => by
        have := owns_cell (k := k) (owns_keep (w' := wy) HOWN.out (fun j hj => hk.block j (HOWN.out.lt j hj).2 id)) hlt
        rw [this]; exact hat
      have HCA := hid hca
      have ha600 : at_ ≤ 700 := by omega
      clear hfk hpl hup hat hate hca
      obtain ⟨nm, kd, ct⟩ := f
      obtain ⟨cn, rfl⟩ := Int.eq_ofNat_of_zero_le (a := ct) (by have := hof.2; simp only at this; omega)
      have hof' : 1 ≤ szN kd ∧ (1 : Int) ≤ (cn : Int) ∧ (cn : Int) ≤ 8 := hof
      clear hof
      simp only [Int.toNat_natCast] at c0 c1 c2 hel hfn hbad hnx hs8
      obtain ⟨hz1k, hc1, hc8⟩ := hof'
      have hc18 : cn ≤ 8 := by omega
      have HKD : Hid (kindB kd = true) := hid (by
        unfold kindB
        refine decide_eq_true ?_
        by_cases h1 : 1 ≤ kd ∧ kd ≤ 10
        · exact h1
        · have h : sizeK kd = 0 := by unfold sizeK; rw [if_neg (by omega), if_neg (by omega), if_neg (by omega), if_neg (by omega)]
          unfold szN at hz1k
          rw [h] at hz1k
          exact absurd hz1k (by decide))
      have HEL2 := hid hel; have HFN := hid hfn; have HBAD := hid hbad; have HNX := hid hnx; have HS8 := hid hs8
      have HZ1 := hid hz1k
      clear hel hfn hbad hnx hc1 hc8
      have hka := (Keep.refl (fun _ => False) wr).alloc (.cells #[.string nm, .int .i64 kd, .int .i64 (cn : Int)] 83)
      have hfb := heap_alloc_new wr (.cells #[.string nm, .int .i64 kd, .int .i64 (cn : Int)] 83)
      have HFB := hid hfb
      have HKA := hid (HKW.out.trans hka)
      have HOA := hid (owns_keep HOV.out (fun j hj => hka.block j (HOV.out.lt j hj).2 id))
      clear hfb hka
      go_upto_region 10 with fail
      generalize wr.alloc (.cells #[.string nm, .int .i64 kd, .int .i64 (cn : Int)] 83) = wa at *
      generalize wr.heap.size = fb at *
      clear c0 c1 c2
      have e1 : wa.cell? ⟨fb, 1, none⟩ = some (.int .i64 kd) := cell_of HFB.out (by rfl)
      go_wp2_with fail
      refine (size_of kd _).mono ?_
      rintro r w4 ⟨rfl, hk4⟩
      rw [sz_cast]
      have HK4 := hid (HKA.out.trans hk4); have HO4 := hid (owns_keep HOA.out (fun j hj => hk4.block j (HOA.out.lt j hj).2 id)); have HF4 := hid (hk4.get HFB.out id)
      clear hk4 e1
      obtain ⟨zz, hzz⟩ : ∃ zz, szN kd = zz := ⟨_, rfl⟩
      have HZZ := hid hzz
      rw [hzz] at HEL2 HBAD HS8 HZ1 ⊢
      clear hzz hs8 hz1k
      have e2 : w4.cell? ⟨fb, 2, none⟩ = some (.int .i64 (cn : Int)) := cell_of HF4.out (by rfl)
      go_wp2_with fail
      clear e2
      go_loopw [8, 12, 13, 14, 15, 43] (fun vv _ _ _ _ i wy => ∃ j : Nat, j ≤ cn ∧ i = iV j ∧ wy.ownsRow w2.heap.size 86 3 vv (rs ++ unEl s kd at_ j).length ((rs ++ unEl s kd at_ j).flatMap wcl) ∧ Keep (fun _ => False) w2 wy ∧ wy.heap[fb]? = some (.cells #[.string nm, .int .i64 kd, .int .i64 (cn : Int)] 83 (0, 0)) ∧ (unEl s kd at_ j).all (fitsB kd) = true) (fun _ _ _ _ _ i _ => cn + 1 - (RowKit.intOf i).toNat)
      case atStart => exact ⟨0, by omega, rfl, by rw [show unEl s kd at_ 0 = [] from rfl, List.append_nil]; exact HO4.out, HK4.out, HF4.out, rfl⟩
      case round =>
        obtain ⟨j, hj, rfl, hoj, hkj, hfj, haj⟩ := hrel
        obtain ⟨vq, vd, rfl⟩ := owns_val hoj
        have hwl : (rs ++ unEl s kd at_ j).length ≤ 100 := by rw [List.length_append, unEl_len]; have := HRL.out; omega
        obtain ⟨ws, hws⟩ : ∃ ws, rs ++ unEl s kd at_ j = ws := ⟨_, rfl⟩
        rw [hws] at hoj hwl ⊢
        have HWS := hid hws
        clear hws
        have HOJ := hid hoj; have HKJ := hid hkj; have HFJ := hid hfj; have HAJ := hid haj
        clear hoj hkj hfj haj
        by_cases hjt : j < cn
        · have hpc := (HBC.out _ HKJ.out).2
          have hcc := HCA.out _ HKJ.out
          obtain ⟨jz, hjz⟩ : ∃ jz, j * zz = jz := ⟨_, rfl⟩
          have hmul : (j : Int) * (zz : Int) = (jz : Int) := by rw [← hjz]; exact (Int.natCast_mul j zz).symm
          have hjz64 : jz ≤ 64 := by rw [← hjz]; exact Nat.mul_le_mul (show j ≤ 8 by omega) HS8.out
          have hel2 : at_ + jz + zz ≤ s.size := by rw [← hjz]; exact HEL2.out j hjt
          have hz8 := HS8.out
          have HNXT : Hid (unEl s kd at_ (j + 1) = unEl s kd at_ j ++ [getV kd (elB s (at_ + jz) zz)]) := hid (by rw [unEl_next, HZZ.out, hjz])
          have HBJ : Hid (fitsB kd (getV kd (elB s (at_ + jz) zz)) = false → unOk fs s = false) := hid (fun h => HBAD.out j hjt (by rw [hjz]; exact h))
          have HEZ : Hid ((elB s (at_ + jz) zz).size = zz) := hid (by unfold elB; rw [ByteArray.size_extract]; omega)
          have HEB : Hid (elB s (at_ + jz) zz = s.extract (at_ + jz) (at_ + jz + zz)) := hid rfl
          clear hjz
          go_upto_region 15 with fail
          have e1 : wr.drew.cell? ⟨fb, 1, none⟩ = some (.int .i64 kd) := cell_of (w := wr.drew) HFJ.out (by rfl)
          have g3 : (0 : Int) ≤ (at_ : Int) + (jz : Int) ∧ (at_ : Int) + (jz : Int) ≤ (at_ : Int) + (jz : Int) + (zz : Int) ∧ (at_ : Int) + (jz : Int) + (zz : Int) ≤ (s.size : Int) := ⟨by omega, by omega, by omega⟩
          obtain ⟨gx, ge, hR, hR1, hR2⟩ : ∃ (gx : WI) (ge : Nat), getR kd (elB s (at_ + jz) zz) = .tuple #[WV gx, iV ge] ∧ (fitsB kd (getV kd (elB s (at_ + jz) zz)) = true → gx = getV kd (elB s (at_ + jz) zz) ∧ ge = 0) ∧ (fitsB kd (getV kd (elB s (at_ + jz) zz)) = false → ge = 4) := by
            refine ⟨_, _, rfl, ?_, ?_⟩
            · intro h; rw [if_pos h, if_pos h]; exact ⟨rfl, rfl⟩
            · intro h; rw [if_neg (by rw [h]; simp)]
          have HR := hid hR; have HR1 := hid hR1; have HR2 := hid hR2
          have HGET : Hid (∀ wz, Calls Tryz.prog 81 #[.int .i64 kd, .string (s.extract (at_ + jz) (at_ + jz + zz))] wz fun r w' => r = .returned (.tuple #[WV gx, iV ge]) ∧ Keep (fun _ => False) wz w') := hid (fun wz => by
            have h := f_get kd HKD.out (elB s (at_ + jz) zz) (by rw [HEZ.out, HZZ.out]) wz
            rwa [HR.out, HEB.out] at h)
          clear hR hR1 hR2
          go_cut [14, 15] from 44 to 73 (fun x y wx => ∃ xb, x = .pointer (some ⟨xb, 0, none⟩) ∧ y = iV ge ∧ wx.heap[xb]? = some (.cells (WC gx) 86 (0, 0)) ∧ Keep (fun _ => False) wr wx)
          case first =>
            refine Plan.wp_region_tr (.st 0 (.st 1 (.st 2 (.st 3 (.st 4 (.st 5 (.st 6 (.st 7 (.br 8 [] (.st 9 (.st 10 (.st 11 (.ac 12 [9, 10, 11] (.ac 13 [11] (.st 14 .done)))))) 12 [0, 1, 2, 3, 4, 5, 6, 7] (.ac 8 [] (.st 9 (.st 10 (.st 11 (.ac 13 [11] (.st 14 .done))))))))))))))) (by as_aux_lemma => kernel_rfl) (by as_aux_lemma => kernel_rfl) ?_
            iterate 8 (refine Plan.tr_st rfl ?_; go_big_quiet_step (fail); refine wpQuiet_nil ?_)
            refine Plan.tr_br rfl rfl ?_ ?_
            · go_wp2_with fail
              refine (HGET.out _).mono ?_
              rintro r w5 ⟨rfl, hk5⟩
              have HK5 := hid ((Keep.refl (fun _ => False) wr).drew.trans hk5)
              clear hk5 e1
              go_wp2
              refine Plan.trQ_mk ?_ ?_
              · repeat (refine Plan.chk_st rfl ?_ ?_; focus (go_big_quiet_step (fail); exact wpQuiet_nil rfl))
                exact Plan.chk_end
              iterate 3 (refine Plan.tr_st rfl ?_; go_big_quiet_step (fail); refine wpQuiet_nil ?_)
              refine Plan.tr_ac rfl ?_
              go_wp2
              refine Plan.trQ_mk ?_ ?_
              · repeat (refine Plan.chk_st rfl ?_ ?_; focus (go_big_quiet_step (fail); exact wpQuiet_nil rfl))
                exact Plan.chk_end
              refine Plan.tr_ac rfl ?_
              have hxb := heap_alloc_new w5 (.cells Z3 86)
              have HXB := hid hxb
              have HKX := hid (HK5.out.alloc (.cells Z3 86))
              clear hxb
              go_wp2
              refine Plan.trQ_mk ?_ ?_
              · repeat (refine Plan.chk_st rfl ?_ ?_; focus (go_big_quiet_step (fail); exact wpQuiet_nil rfl))
                exact Plan.chk_end
              refine Plan.tr_st rfl ?_; go_big_quiet_step (fail); refine wpQuiet_nil ?_
              refine Plan.tr_end ?_
              go_wp2
              go_meet
              case rel => exact ⟨_, rfl, rfl, heap_alloc_new w5 _, HK5.out.alloc _⟩
            · have hxb : (wr.alloc (.cells Z3 86)).drew.heap[wr.heap.size]? = some (.cells Z3 86 (0, 0)) := heap_alloc_new wr (.cells Z3 86)
              have HXB := hid hxb
              have HKX0 : Hid (Keep (fun _ => False) wr (wr.alloc (.cells Z3 86)).drew) := hid ((Keep.refl (fun _ => False) wr).alloc (.cells Z3 86)).drew
              have e2 : (wr.alloc (.cells Z3 86)).drew.cell? ⟨fb, 1, none⟩ = some (.int .i64 kd) := cell_of (HKX0.out.get HFJ.out id) (by rfl)
              clear hxb
              go_wp2
              refine Plan.trQ_mk ?_ ?_
              · repeat (refine Plan.chk_st rfl ?_ ?_; focus (go_big_quiet_step (fail); exact wpQuiet_nil rfl))
                exact Plan.chk_end
              refine Plan.tr_ac rfl ?_
              go_wp2_with fail
              refine (HGET.out _).mono ?_
              rintro r w5 ⟨rfl, hk5⟩
              have HK5 := hid (HKX0.out.trans hk5)
              have HX5 := hid (hk5.get HXB.out id)
              clear hk5 e1 e2
              go_wp2
              refine Plan.trQ_mk ?_ ?_
              · repeat (refine Plan.chk_st rfl ?_ ?_; focus (go_big_quiet_step (fail); exact wpQuiet_nil rfl))
                exact Plan.chk_end
              iterate 3 (refine Plan.tr_st rfl ?_; go_big_quiet_step (fail); refine wpQuiet_nil ?_)
              refine Plan.tr_ac rfl ?_
              have x0 := cell_of HX5.out (i := 0) (by rfl)
              have x1 := cell_of HX5.out (i := 1) (by rfl)
              have x2 := cell_of HX5.out (i := 2) (by rfl)
              have y0 := free_of HX5.out 0
              have y1 := free_of HX5.out 1
              have y2 := free_of HX5.out 2
              go_wp2
              refine Plan.trQ_mk ?_ ?_
              · repeat (refine Plan.chk_st rfl ?_ ?_; focus (go_big_quiet_step (fail); exact wpQuiet_nil rfl))
                exact Plan.chk_end
              refine Plan.tr_st rfl ?_; go_big_quiet_step (fail); refine wpQuiet_nil ?_
              refine Plan.tr_end ?_
              go_wp2
              go_meet
              case rel => exact ⟨_, rfl, rfl, (cells3 (.bool gx.neg) (.int .u64 (gx.hi : Int)) (.int .u64 (gx.lo : Int)) HX5.out), ((HK5.out.setCell_new (p := ⟨wr.heap.size, 0, none⟩) (Nat.le_refl _) _).setCell_new (p := ⟨wr.heap.size, 1, none⟩) (Nat.le_refl _) _).setCell_new (p := ⟨wr.heap.size, 2, none⟩) (Nat.le_refl _) _⟩
          case rest =>
          obtain ⟨xb, rfl, rfl, hxb, hkx⟩ := hcut
          have HXB := hid hxb
          have HKC := hid (HKJ.out.trans hkx)
          have HOC := hid (owns_keep HOJ.out (fun i hi => hkx.block i (HOJ.out.lt i hi).2 id))
          have HFC := hid (hkx.get HFJ.out id)
          clear hxb hkx hpc hcc e1 g3
          cases hft : fitsB kd (getV kd (elB s (at_ + jz) zz))
          · obtain rfl := HR2.out hft
            have G1 : Hid (unE fs s = 4) := hid (by rw [HUE3.out, HBJ.out hft]; rfl)
            have G2 := hid (HUV.out 4 G1.out (by decide))
            clear hft
            go_wp2
            (try simp only [Exit.inBlock, Exit.then])
            refine bodyPost_ret (results_tt2 rfl _) rfl ?_
            rw [G1.out, G2.out]
            exact ⟨none, 0, rfl, World.ownsRow_nil _ _ _ _, HW2.out _ HKC.out⟩
          · obtain ⟨hgx, rfl⟩ := HR1.out hft
            have HGX := hid hgx
            have HFT := hid hft
            clear hft hgx
            have x0 := cell_of HXB.out (i := 0) (by rfl)
            have x1 := cell_of HXB.out (i := 1) (by rfl)
            have x2 := cell_of HXB.out (i := 2) (by rfl)
            have hsw := HKC.out.size
            go_wp2_with (at_builtin; go_loud (refine wpList_append_rd rfl (.tmp 69) (.tmp 71) _ rfl w2.heap.size _ i0 _ 3 24 Tryz.underlying28 hi0 hz0 hz1 hz2 rfl (by decide) _ ws.length _ (by rfl) (HOC.out.alloc _) _ 1 [.bool gx.neg, .int .u64 (gx.hi : Int), .int .u64 (gx.lo : Int)] (by rfl) (rd_block (heap_alloc_new wc _) (by simp) (by simp [Value.oneCell'])) (by unfold maxLen; omega) (by omega) (by simp; omega) ?_); go_loud (intro v' w5 hown5 hgrow5 hat5 hn5; obtain ⟨vp, vo, rfl⟩ := owns_val hown5))
            have hal := (Keep.refl (fun _ => False) wc).alloc (.cells #[.bool gx.neg, .int .u64 (gx.hi : Int), .int .u64 (gx.lo : Int)] 86)
            have hfa := hal.get HFC.out id
            have HF5 : Hid (w5.heap[fb]? = some (.cells #[.string nm, .int .i64 kd, .int .i64 (cn : Int)] 83 (0, 0))) := hid (by
              rw [hgrow5.block fb (lt_of_heap hfa) (fun e => owns_ne (HOC.out.alloc _) hfa ne_fld e.symm)]
              exact hfa)
            have HK5 : Hid (Keep (fun _ => False) w2 w5) := hid ((HKC.out.alloc _).grown hgrow5 (fun k hk => .inl (HOC.out.lt k hk).1))
            have HO5 := hid hown5
            have HJN : Hid (rs ++ unEl s kd at_ (j + 1) = ws ++ [gx]) := hid (by rw [HNXT.out, ← List.append_assoc, HWS.out, HGX.out])
            clear hown5 hgrow5 hat5 hn5 hal hfa x0 x1 x2 hsw
            go_roundw
            case rel =>
              refine ⟨j + 1, by omega, by go_num, ?_, HK5.out, HF5.out, ?_⟩
              · rw [HJN.out, List.length_append, List.flatMap_append]
                have h := HO5.out
                simpa [wcl] using h
              · rw [HNXT.out, List.all_append, HAJ.out, ← HGX.out]
                have := HFT.out
                rw [← HGX.out] at this
                simp [this]
            case measure => simp [RowKit.intOf]; omega
        · obtain rfl : j = cn := by omega
          have HNX2 : Hid ((unRun s (fs.take (k + 1))).2 = ws) := hid (by rw [HNX.out, HWS.out])
          have HFN2 : Hid (unFl s fs (k + 1) = true) := hid (by rw [HFN.out, HAJ.out]; rfl)
          have HRL2 : Hid (ws.length ≤ 8 * (k + 1)) := hid (by rw [← HWS.out, List.length_append, unEl_len]; have := HRL.out; omega)
          go_wp2
          go_roundw
          case rel => exact ⟨k + 1, ws, by omega, by go_num, HNX2.out.symm, HFN2.out, HRL2.out, HOJ.out, HKJ.out⟩
          case measure => simp [RowKit.intOf]; omega
    · obtain rfl : k = fs.length := by omega
      have hrow : rs = unRow fs s := by rw [HRS.out, List.take_length]; rfl
      have hfr : fitRun fs rs = true := by rw [hrow, ← unFl_all]; exact HFL.out
      have hlen : rs.length = sumN fs := by have := (un_inv s fs fs.length (Nat.le_refl _)).2; rw [List.take_length] at this; rw [hrow]; exact this
      have hfc : fitC fs rs = 0 := by unfold fitC; rw [if_pos HZ.out, if_pos hlen, if_pos hfr]
      have hps : packS fs rs = ⟨(packL fs rs).toArray⟩ := by unfold packS; rw [if_pos hfc]
      have hok : unOk fs s = decide ((⟨(packL fs rs).toArray⟩ : ByteArray) = s) := by unfold unOk; rw [← hrow, hfr]; rfl
      have hfit : ∀ x ∈ rs, x.fit := by
        rw [hrow]
        have key : ∀ m, m ≤ fs.length → ∀ x ∈ (unRun s (fs.take m)).2, x.fit := by
          intro m
          induction m with
          | zero => intro _ x hx; rw [List.take_zero] at hx; cases hx
          | succ m ih =>
            intro hm x hx
            obtain ⟨f, hf⟩ : ∃ f, fs[m]? = some f := ⟨fs[m], by simp [show m < fs.length by omega]⟩
            rw [unRun_next hf] at hx
            rcases List.mem_append.1 hx with h | h
            · exact ih (by omega) x h
            · obtain ⟨i, _, rfl⟩ := List.mem_map.1 h
              exact getV_fit _ _
        have := key fs.length (Nat.le_refl _)
        rw [List.take_length] at this
        exact this
      have HROW := hid hrow; have HFC := hid hfc; have HPK := hid hps; have HOK2 := hid hok
      have hxp := xp_own rfl HOV.out
      have hfp := FP.mono (FP.low HF.out (Low.keep0 (HW2.out _ HKW.out))) (HW2.out _ HKW.out).size
      have HPACK := hid (lay_pack fs p cap rs va vc wr HCP.out (owns_cap HOV.out) (by have := HRL.out; omega) hfit hfp hxp)
      clear hrow hfr hlen hfc hps hok hfit hxp hfp
      go_wp2_with fail
      refine HPACK.out.mono ?_
      rintro r w6 ⟨rfl, hk6⟩
      rw [HPK.out, HFC.out]
      have HK6 := hid (HKW.out.trans hk6)
      have HO6 := hid (owns_keep HOV.out (fun i hi => hk6.block i (HOV.out.lt i hi).2 id))
      clear hk6
      generalize (⟨(packL fs rs).toArray⟩ : ByteArray) = bk at *
      by_cases hbk : bk = s
      · have g1 : (!bk.toList == s.toList) = false := by rw [hbk]; simp
        have G1 : Hid (unE fs s = 0) := hid (by rw [HUE3.out, HOK2.out, decide_eq_true hbk]; rfl)
        have G2 : Hid (unV fs s = rs) := hid (by unfold unV; rw [if_pos G1.out, HROW.out])
        clear hbk
        go_wp2
        (try simp only [Exit.inBlock, Exit.then])
        refine bodyPost_ret (results_tt2 rfl _) rfl ?_
        rw [G1.out, G2.out]
        exact ⟨va, vc, rfl, owns_mono HO6.out HP2.out, HW2.out _ HK6.out⟩
      · have g1 : (!bk.toList == s.toList) = true := by rw [beq_eq_false_iff_ne.2 (fun h => hbk (toList_inj h))]; rfl
        have G1 : Hid (unE fs s = 4) := hid (by rw [HUE3.out, HOK2.out, decide_eq_false hbk]; rfl)
        have G2 := hid (HUV.out 4 G1.out (by decide))
        clear hbk
        go_wp2
        (try simp only [Exit.inBlock, Exit.then])
        refine bodyPost_ret (results_tt2 rfl _) rfl ?_
        rw [G1.out, G2.out]
        exact ⟨none, 0, rfl, World.ownsRow_nil _ _ _ _, HW2.out _ HK6.out⟩
end Go.Proofs.YtlhdofkgcbmnnaaGreat

namespace Go.Proofs.YtlhdofkgcbmnnaaGreat
open Go.RowKit Go.Proofs.Heap Go.Proofs.Sch Go.Proofs.Wide

/-- A value, field by field. -/
def splitF : List Fld → List WI → List (List WI)
  | [], _ => []
  | f :: r, vs => vs.take f.count.toNat :: splitF r (vs.drop f.count.toNat)
theorem splitF_len : ∀ (fs : List Fld) (vs : List WI), (splitF fs vs).length = fs.length
  | [], _ => rfl
  | _ :: r, _ => by rw [splitF, List.length_cons, List.length_cons, splitF_len r]
theorem splitF_mem : ∀ (fs : List Fld) (vs : List WI), ∀ l ∈ splitF fs vs, ∀ x ∈ l, x ∈ vs
  | [], _ => fun l hl => by simp [splitF] at hl
  | f :: r, vs => fun l hl x hx => by
    rw [splitF] at hl
    rcases List.mem_cons.1 hl with rfl | hl
    · exact List.mem_of_mem_take hx
    · exact List.mem_of_mem_drop (splitF_mem r _ l hl x hx)
theorem splitF_fit {fs : List Fld} {vs : List WI} (h : ∀ x ∈ vs, x.fit) : FitF (splitF fs vs) := fun l hl x hx => h x (splitF_mem fs vs l hl x hx)
/-- What is wrong ahead of the first element. -/
def readyC (old new : Cmp) (r : Rul) (vs : List WI) : Nat :=
  if fitC old.fs vs ≠ 0 then fitC old.fs vs else if layC new.fs ≠ 0 then layC new.fs else if r.old = 0 then 7 else ruleC old new r
/-- An element of a new field; its error. -/
def elemE (fs : List (List WI)) (kd : Int) (c : List Ins) (k : Int) : WI × Nat :=
  if (evalW fs k c).2 ≠ 0 then (zW, (evalW fs k c).2) else if fitsB kd (evalW fs k c).1 = true then ((evalW fs k c).1, 0) else (zW, 3)
/-- One element ahead of others. -/
def consE (x : WI × Nat) (r : List WI × Nat) : List WI × Nat := if x.2 ≠ 0 then ([], x.2) else if r.2 ≠ 0 then ([], r.2) else (x.1 :: r.1, 0)
/-- n elements of a field from the k-th on, ahead of others. -/
def fieldE (fs : List (List WI)) (kd : Int) (c : List Ins) : Nat → Nat → List WI × Nat → List WI × Nat
  | 0, _, r => r
  | n + 1, k, r => consE (elemE fs kd c (k : Int)) (fieldE fs kd c n (k + 1) r)
def fieldsE (fs : List (List WI)) : List Fld → List (List Ins) → List WI × Nat
  | [], _ => ([], 0)
  | f :: r, cs => fieldE fs f.kind (cs.headD []) f.count.toNat 0 (fieldsE fs r cs.tail)
/-- The new value; its error. -/
def valueE (old new : Cmp) (r : Rul) (vs : List WI) : List WI × Nat :=
  if readyC old new r vs ≠ 0 then ([], readyC old new r vs) else fieldsE (splitF old.fs vs) new.fs r.exprs
/-- The new row; its error. -/
def evRow (old new : Cmp) (r : Rul) (s : ByteArray) : ByteArray × Nat :=
  if unE old.fs s ≠ 0 then (⟨#[]⟩, unE old.fs s)
  else if (valueE old new r (unV old.fs s)).2 ≠ 0 then (⟨#[]⟩, (valueE old new r (unV old.fs s)).2)
  else (packS new.fs (valueE old new r (unV old.fs s)).1, fitC new.fs (valueE old new r (unV old.fs s)).1)
/-- What a set becomes. -/
def sigE (s : Nat) : Nat → List Rul → Nat
  | o, [] => o
  | o, r :: l => sigE s (if hasSig s r.old = true then withN o r.new else o) l

/-- What is done already, ahead of the rest. -/
def doneE (done : List WI) (r : List WI × Nat) : List WI × Nat := if r.2 ≠ 0 then ([], r.2) else (done ++ r.1, 0)
theorem doneE_nil (r : List WI × Nat) (h : r.2 ≠ 0 → r.1 = []) : doneE [] r = r := by
  obtain ⟨l, e⟩ := r
  unfold doneE
  by_cases hz : e = 0
  · subst hz; simp
  · have h1 := h hz
    simp only at h1
    subst h1
    rw [if_pos hz]
theorem consE_none (x : WI × Nat) (r : List WI × Nat) (h : (consE x r).2 ≠ 0) : (consE x r).1 = [] := by
  unfold consE at h ⊢
  split
  · rfl
  next h1 =>
    rw [if_neg h1] at h
    split
    · rfl
    next h2 => rw [if_neg h2] at h; simp at h
theorem fieldE_none (fs : List (List WI)) (kd : Int) (c : List Ins) : ∀ (n k : Nat) (r : List WI × Nat), (r.2 ≠ 0 → r.1 = []) → (fieldE fs kd c n k r).2 ≠ 0 → (fieldE fs kd c n k r).1 = []
  | 0, _, _, hr => hr
  | _ + 1, _, _, _ => consE_none _ _
theorem fieldsE_none (fs : List (List WI)) : ∀ (l : List Fld) (cs : List (List Ins)), (fieldsE fs l cs).2 ≠ 0 → (fieldsE fs l cs).1 = []
  | [], _ => fun _ => rfl
  | _ :: r, cs => fieldE_none _ _ _ _ _ _ (fieldsE_none fs r cs.tail)
theorem valueE_none (old new : Cmp) (r : Rul) (vs : List WI) (h : (valueE old new r vs).2 ≠ 0) : (valueE old new r vs).1 = [] := by
  unfold valueE at h ⊢
  split
  · rfl
  next h1 => rw [if_neg h1] at h; exact fieldsE_none _ _ _ h
/-- An element that there is joins what is done. -/
theorem doneE_cons {done : List WI} {x : WI} {r : List WI × Nat} : doneE done (consE (x, 0) r) = doneE (done ++ [x]) r := by
  unfold doneE consE
  simp only [ne_eq, not_true_eq_false, if_false]
  by_cases h : r.2 = 0
  · simp [h]
  · simp [h]
theorem doneE_stop {done : List WI} {x : WI × Nat} {r : List WI × Nat} (h : x.2 ≠ 0) : doneE done (consE x r) = ([], x.2) := by
  unfold doneE consE
  simp [h]
theorem elemE_form {fs : List (List WI)} {kd : Int} {c : List Ins} {k : Int} (h : (elemE fs kd c k).2 = 0) : (evalW fs k c).2 = 0 ∧ (elemE fs kd c k).1 = (evalW fs k c).1 ∧ fitsB kd (evalW fs k c).1 = true := by
  unfold elemE at h ⊢
  split
  next h1 => rw [if_pos h1] at h; exact absurd h h1
  next h1 =>
    rw [if_neg h1] at h
    split
    next h2 => exact ⟨by simpa using h1, rfl, h2⟩
    next h2 => rw [if_neg h2] at h; simp at h
end Go.Proofs.YtlhdofkgcbmnnaaGreat

namespace Go.Proofs.Heap
open Go.RowKit Go.WideMaps

/-- A function with a body: a call of it enters it. -/
def Ours (P : Program) (F : FuncId) : Prop := ∀ (args : Array Value) (w : World), (callFunc F args).run P w = .ok (.enter F args) w
theorem wpList_dyn {P : Program} {ops : Array Oper} {rest : List Oper} {o : Oper} {a : Act} {w : World} {Q : Exit → Act → World → Prop} (hg : o.guard = none) (x : Operand) (xs : Array Operand) (ts : Array TypeId) (ho : o.op = .call ⟨.value x, xs, ts⟩)
    (F : FuncId) (first cap : Array Value) (hx : a.eval x = .func (.func F) first cap) (hF : Ours P F) (args : Array Value) (hargs : first ++ xs.map a.eval ++ cap = args)
    (h : Calls P F args w fun e w' => ∃ v, e = .returned v ∧ wpList P ops Q rest (a.put o.dst v) w') : wpList P ops Q (o :: rest) a w := by
  refine wpList_plain hg fun K hK => ?_
  have hrun : (execOp a.eval o).run P w = .ok (.enter F args) w := by
    have h1 := hF args w
    subst hargs
    unfold execOp
    rw [ho]
    simp only [resolve, hx, Deferred.ofValue]
    simpa [invoke] using h1
  unfold Oper.wp
  rw [hrun, Oper.upon_enter]
  refine h.mono fun e w' hh => ?_
  obtain ⟨v, rfl, hh⟩ := hh
  exact hK _ _ hh
end Go.Proofs.Heap
namespace Go.Proofs.IMap
open Go.RowKit Go.Proofs.Heap Go.WideMaps

/-- How any value reads: as itself. -/
def selfV (v : Value) : Option (DataW Value × List MemPlace) := some (.held v, [])
/-- Block b is a map of at most n entries that holds f; z where there is none. -/
def VM (P : Program) (tK : TypeId) (w : World) (b n : Nat) (z : Value) (f : Int → Value) : Prop :=
  ∃ D : DataW Value, w.ownsMap P tK selfV b n D ∧ Maps.IsMap D ∧ ∀ l, D.atKey (.int .i64 l) (.held z) = .held (f l)
def putV (f : Int → Value) (s : Int) (v : Value) : Int → Value := fun l => if l = s then v else f l
section
variable {P : Program} {tK tE : TypeId} {w : World} {b n : Nat} {z : Value} {f : Int → Value}
theorem VM.made (w : World) : VM P tK (w.alloc (.map #[] 0)) w.heap.size 0 z (fun _ => z) :=
  ⟨_, World.ownsMap_made w P tK _, ⟨_, rfl⟩, fun _ => rfl⟩
theorem VM.lt (h : VM P tK w b n z f) : b < w.heap.size := by obtain ⟨D, h1, _⟩ := h; exact h1.lt
theorem VM.keep {w' : World} (h : VM P tK w b n z f) (hk : w'.heap[b]? = w.heap[b]?) : VM P tK w' b n z f := by
  obtain ⟨D, ⟨es, clock, h1, h2⟩, h3⟩ := h
  exact ⟨D, ⟨es, clock, hk.trans h1, h2⟩, h3⟩
theorem VM.look {t : TypeId} (h : VM P tK w b n z f) (hk : P.underlying tK = some (.int .i64)) (ht : P.underlying t = some (.map tK tE)) (hz : (zeroValue tE).run P w = .ok z w) (x : Int) (hx : (Lit.int .i64 x).wf = true) :
    (Instr.lookup t (.map (some b)) (.int .i64 x) false).run P w = .ok (f x) w := by
  obtain ⟨D, h1, h2, h3⟩ := h
  obtain ⟨v, ps, hrun, hv⟩ := h1.lookup (Maps.int_keyed hk) ht hz (zd := .held z) (zp := []) rfl (Maps.keyOf_int_mk hk hx)
  rw [h3] at hv
  have e : v = f x := by
    unfold selfV at hv
    injection hv with hv
    injection hv with hv _
    injection hv
  rw [hrun, e]
theorem VM.put_run {t : TypeId} (h : VM P tK w b n z f) (hk : P.underlying tK = some (.int .i64)) (ht : P.underlying t = some (.map tK tE)) (hn : n < maxLen) (s : Int) (hs : (Lit.int .i64 s).wf = true) (v : Value) :
    ∃ w', (Instr.mapUpdate t (.map (some b)) (.int .i64 s) v).run P w = .ok () w' ∧ VM P tK w' b (n + 1) z (putV f s v) ∧ w.grownBy w' (some b) := by
  obtain ⟨D, h1, h2, h3⟩ := h
  obtain ⟨w', hr, g1, g2⟩ := h1.update (Maps.int_keyed hk) ht hn (Maps.keyOf_int_mk hk hs) (d := .held v) (ps := []) (val := v) rfl
  refine ⟨w', hr, ⟨_, g1, ?_, fun l => ?_⟩, g2⟩
  · obtain ⟨es, rfl⟩ := h2; exact ⟨_, rfl⟩
  · unfold putV
    by_cases hl : l = s
    · rw [if_pos hl, hl, Maps.atKey_put_same h2 (by trivial)]
    · rw [if_neg hl, Maps.atKey_put_other (fun e => hl (by injection e)), h3]
end
end Go.Proofs.IMap
