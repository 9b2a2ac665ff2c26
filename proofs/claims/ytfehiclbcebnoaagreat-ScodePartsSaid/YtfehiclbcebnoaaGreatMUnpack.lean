/- What is proved: what layout.Unpack answers: the value of a row, or the error. -/
import Derived.Test.YtfehiclbcebnoaaGreatMBuilder
import Derived.Test.YtfehiclbcebnoaaGreatMFound
import Derived.Test.YtfehiclbcebnoaaGreatMRegion
import Derived.BigQuiet
namespace Go.Proofs.YtfehiclbcebnoaaGreat
open Go.RowKit Go.Proofs.Heap Go.Proofs.Sch Go.Proofs.Wide

def wcl (x : WI) : List Value := [.bool x.neg, .int .u64 (x.hi : Int), .int .u64 (x.lo : Int)]
theorem wcl_len (x : WI) : (wcl x).length = 3 := rfl
theorem xp_own {w : World} {base n : Nat} {e : TypeId} {p : Option Addr} {c : Nat} {l : List WI} (hn : l.length = n) (h : w.ownsRow base e 3 (.slice p n c) n (l.flatMap wcl)) : XP w w.heap.size p l := by
  rcases Nat.eq_zero_or_pos n with h0 | h0
  · exact .inl (List.eq_nil_of_length_eq_zero (by omega))
  · obtain ⟨q, rfl⟩ := owns_some h h0
    refine .inr ⟨q, 0, rfl, (h.lt q (by simp [Value.ownBlock])).2, fun i x hx => ?_⟩
    have e0 := owns3_cell wcl_len h hx (r := 0) (u := .bool x.neg) rfl
    have e1 := owns3_cell wcl_len h hx (r := 1) (u := .int .u64 (x.hi : Int)) rfl
    have e2 := owns3_cell wcl_len h hx (r := 2) (u := .int .u64 (x.lo : Int)) rfl
    rw [Nat.zero_add]
    exact ⟨e0, e1, e2⟩
theorem owns_cap {w : World} {base n c : Nat} {e : TypeId} {size : Nat} {p : Option Addr} {xs : List Value} (h : w.ownsRow base e size (.slice p n c) n xs) : n ≤ c := by
  rcases h.2 with ⟨h1, h2⟩ | ⟨g, cap, cur, hv, hb, hg, hn, _⟩
  · injection h1 with h3 h4 h5; omega
  · injection hv with h3 h4 h5; omega
theorem ne_fld : 45 ≠ 54 := by decide
theorem owns_ne {w : World} {B : Nat} {e T : TypeId} {size : Nat} {v : Value} {n : Nat} {xs : List Value} {b : Nat} {cs : Array Value} {fr : Nat × Nat} (hown : w.ownsRow B e size v n xs) (hb : w.heap[b]? = some (.cells cs T fr)) (hTe : T ≠ e) : v.ownBlock ≠ some b := by
  intro h
  rcases owns_block hown with ⟨rfl, _⟩ | ⟨g, cap, cur, rfl, hbg, hg, _⟩
  · simp [Value.ownBlock] at h
  · simp [Value.ownBlock] at h
    subst h
    rw [hg] at hb
    injection hb with hb
    injection hb with h1 h2
    exact hTe h2.symm
theorem info_wi : (Tryz.prog.info? 54).map (fun i => (i.zero, i.size, i.bytes)) = some (some (.agg #[.bool false, .int .u64 0, .int .u64 0]), 3, 24) := by kernel_rfl

set_option maxRecDepth 20000 in
set_option maxHeartbeats 8000000 in
theorem lay_unpack (fs : List Fld) (p : Option Addr) (cap : Nat) (s : ByteArray) (w : World) (hcap : fs.length ≤ cap) (hs : s.size ≤ 9223372036854775807) (hf : FP w w.heap.size p fs) :
    Calls Tryz.prog 59 #[.slice p fs.length cap, .string s] w fun r w' => ∃ a c, r = .returned (.tuple #[.slice a (unV fs s).length c, iV (unE fs s)]) ∧ w'.ownsRow w.heap.size 54 3 (.slice a (unV fs s).length c) (unV fs s).length ((unV fs s).flatMap wcl) ∧ Keep (fun _ => False) w w' := by
  obtain ⟨i0, hi0, hz0, hz1, hz2⟩ := info_parts' info_wi
  have HF := hid hf
  have HCP := hid hcap
  clear hf hcap
  go_enter Tryz.func59, Tryz.ntmps59
  go_wp2_with fail
  refine (lay_of fs p cap _ HF.out).mono ?_
  rintro r w1 ⟨pa, pc, rfl, hown, hk1⟩
  obtain ⟨w2, hw2, hb2, hs2, hk2⟩ := box1 w1 #[.int .i64 (ofSize fs : Int), .slice pa (ofAt fs).length pc] 95
  have HK2 := hid (hk1.trans hk2)
  have HOWN := hid (owns_keep (w' := w2) hown (fun k hk => hk2.block k (hown.lt k hk).2 id))
  have HB2 := hid hb2
  have HP2 : Hid (w.heap.size ≤ w2.heap.size) := hid HK2.out.size
  clear hown hk1 hk2 hb2 hs2
  go_upto_region 2 with fail
  rw [← hw2]
  clear hw2
  generalize w1.heap.size = pb at *
  have HSZ : Hid (layC fs = 0 → ofSize fs = pSize fs) := hid (fun h => by unfold ofSize; rw [if_pos h])
  have HAT : Hid (layC fs = 0 → ofAt fs = (pRun fs).2.2) := hid (fun h => by unfold ofAt; rw [if_pos h])
  have HUE : Hid (unE fs s = if layC fs = 0 then (if s.size = pSize fs then (if unOk fs s = true then 0 else 4) else 4) else layC fs) := hid rfl
  have HUV : Hid (∀ n, unE fs s = n → n ≠ 0 → unV fs s = []) := hid (fun n h hn => by unfold unV; rw [if_neg (by rw [h]; exact hn)])
  have HLC := hid (fun h : layC fs = 0 => layC_zero h)
  generalize hz : layC fs = z at *
  by_cases h0 : z = 0
  rotate_left
  · have g3 : ((z : Int) != 0) = true := by rw [bne, beq_eq_false_iff_ne.2 (show (z : Int) ≠ 0 by omega)]; rfl
    have g4 : (z != 0) = true := by rw [bne, beq_eq_false_iff_ne.2 h0]; rfl
    have G1 : Hid (unE fs s = z) := hid (by rw [HUE.out, if_neg h0])
    have G2 := hid (HUV.out z G1.out h0)
    clear h0 hz
    go_wp2
    (try simp only [Exit.inBlock, Exit.then])
    refine bodyPost_ret (results_tt2 rfl _) rfl ?_
    rw [G1.out, G2.out]
    exact ⟨none, 0, rfl, World.ownsRow_nil _ _ _ _, HK2.out⟩
  subst h0
  have HOS := hid (HSZ.out rfl)
  have HAT2 := hid (HAT.out rfl)
  obtain ⟨hl8, hok⟩ := HLC.out rfl
  have HOK := hid hok
  have HZ := hid hz
  have HUE2 : Hid (unE fs s = if s.size = pSize fs then (if unOk fs s = true then 0 else 4) else 4) := hid (by rw [HUE.out, if_pos rfl])
  clear HUE HSZ HAT HLC hok hz
  rw [HAT2.out, HOS.out] at HB2
  rw [HAT2.out] at HOWN
  rw [HOS.out, HAT2.out]
  have hal : (pRun fs).2.2.length = fs.length := by have := (at_of fs fs.length (Nat.le_refl _)).1; rwa [List.take_length] at this
  rw [hal] at HB2 HOWN ⊢
  clear hal
  have HBC : Hid (∀ wy, Keep (fun _ => False) w2 wy → wy.cell? ⟨pb, 0, none⟩ = some (.int .i64 (pSize fs : Int)) ∧ wy.cell? ⟨pb, 1, none⟩ = some (.slice pa fs.length pc)) := hid (fun wy hk =>
    ⟨cell_of (hk.get HB2.out id) (by rfl), cell_of (hk.get HB2.out id) (by rfl)⟩)
  have d0 := (HBC.out _ (Keep.refl _ _)).1
  by_cases hsz : s.size = pSize fs
  rotate_left
  · have G1 : Hid (unE fs s = 4) := hid (by rw [HUE2.out, if_neg hsz])
    have G2 := hid (HUV.out 4 G1.out (by decide))
    have g1 : ((s.size : Int) != (pSize fs : Int)) = true := by rw [bne, beq_eq_false_iff_ne.2 (show (s.size : Int) ≠ (pSize fs : Int) by omega)]; rfl
    have g2 : (s.size != pSize fs) = true := by rw [bne, beq_eq_false_iff_ne.2 hsz]; rfl
    clear hsz
    generalize pSize fs = sz at *
    go_wp2
    (try simp only [Exit.inBlock, Exit.then])
    refine bodyPost_ret (results_tt2 rfl _) rfl ?_
    rw [G1.out, G2.out]
    exact ⟨none, 0, rfl, World.ownsRow_nil _ _ _ _, HK2.out⟩
  have HUE3 : Hid (unE fs s = if unOk fs s = true then 0 else 4) := hid (by rw [HUE2.out, if_pos hsz])
  have HEL : Hid (∀ (k j : Nat) (f : Fld), fs[k]? = some f → j < f.count.toNat → upN (pRun (fs.take k)).1 (szN f.kind) + j * szN f.kind + szN f.kind ≤ s.size) := hid (fun k j f h1 h2 => by rw [hsz]; exact pSize_ge HOK.out h1 h2)
  have HPS : Hid (s.size = pSize fs) := hid hsz
  rw [← hsz] at d0 ⊢
  clear hsz HUE2
  go_wp2_with fail
  clear d0
  have HW2 : Hid (∀ wy, Keep (fun _ => False) w2 wy → Keep (fun _ => False) w wy) := hid (fun wy h => HK2.out.trans h)
  go_loopw [8, 9, 10, 11, 12, 13, 14, 15, 33] (fun vv _ _ _ _ _ _ _ i wr => ∃ (k : Nat) (rs : List WI), k ≤ fs.length ∧ i = iV k ∧ rs = (unRun s (fs.take k)).2 ∧ unFl s fs k = true ∧ rs.length ≤ 8 * k ∧ wr.ownsRow w2.heap.size 54 3 vv rs.length (rs.flatMap wcl) ∧ Keep (fun _ => False) w2 wr) (fun _ _ _ _ _ _ _ _ i _ => fs.length + 1 - (RowKit.intOf i).toNat)
  case atStart => exact ⟨0, [], by omega, rfl, rfl, rfl, by simp, World.ownsRow_nil _ _ _ _, Keep.refl _ _⟩
  case round =>
    obtain ⟨k, rs, hk, rfl, hrs, hfl, hrl, hov, hkw⟩ := hrel
    obtain ⟨va, vc, rfl⟩ := owns_val hov
    have HRS := hid hrs; have HFL := hid hfl; have HRL := hid hrl; have HOV := hid hov; have HKW := hid hkw
    clear hrs hfl hrl hov hkw
    by_cases hlt : k < fs.length
    · obtain ⟨f, hfk⟩ : ∃ f, fs[k]? = some f := ⟨fs[k], by simp [hlt]⟩
      have hof := HOK.out f (List.mem_of_getElem? hfk)
      obtain ⟨lb, off, rfl, hb, c0, c1, c2⟩ := FP.at (FP.low HF.out (Low.keep0 (HW2.out _ HKW.out))) hfk
      have hin : (0 : Int) ≤ (k : Int) ∧ (k : Int) < (fs.length : Int) := ⟨by omega, by omega⟩
      have hs8 := sz_le f.kind
      have hat : ((pRun fs).2.2.map iV)[k]? = some (iV (upN (pRun (fs.take k)).1 (szN f.kind))) := by
        have h := (at_of fs fs.length (Nat.le_refl _)).2 k f hlt hfk
        rw [List.take_length] at h
        rw [List.getElem?_map, h]; rfl
      have hpl := (pRun_le HOK.out k hk).1
      have hup := up_le (pRun (fs.take k)).1 (szN f.kind) hof.1
      have hel := fun j => HEL.out k j f hfk
      have hfn := unFl_next (s := s) hfk
      have hbad := fun j => un_bad (s := s) (j := j) hfk
      have hnx : (unRun s (fs.take (k + 1))).2 = rs ++ unEl s f.kind (upN (pRun (fs.take k)).1 (szN f.kind)) f.count.toNat := by
        rw [unRun_next hfk, HRS.out, ← (un_inv s fs k hk).1]; rfl
      rw [HFL.out] at hfn
      obtain ⟨ga, rfl⟩ := owns_some HOWN.out (by omega)
      obtain ⟨at_, hate⟩ : ∃ a, upN (pRun (fs.take k)).1 (szN f.kind) = a := ⟨_, rfl⟩
      rw [hate] at hat hup hel hfn hbad hnx
      have hca : ∀ wy, Keep (fun _ => False) w2 wy → wy.cell? ⟨ga, k, none⟩ = some (.int .i64 (at_ : Int)) := fun wy hk => by
        have := owns_cell (k := k) (owns_keep (w' := wy) HOWN.out (fun j hj => hk.block j (HOWN.out.lt j hj).2 id)) hlt
        rw [this]; exact hat
      have HCA := hid hca
      have ha600 : at_ ≤ 700 := by omega
      clear hfk hpl hup hat hate hca
      obtain ⟨nm, kd, ct⟩ := f
      obtain ⟨cn, rfl⟩ := Int.eq_ofNat_of_zero_le (a := ct) (by have := hof.2; simp only at this; omega)
      have hof' : 1 ≤ szN kd ∧ (1 : Int) ≤ (cn : Int) ∧ (cn : Int) ≤ 8 := hof
      clear hof
      simp only [Int.toNat_natCast] at c0 c1 c2 hel hfn hbad hnx hs8
      obtain ⟨hz1k, hc1, hc8⟩ := hof'
      have hc18 : cn ≤ 8 := by omega
      have HKD : Hid (kindB kd = true) := hid (by
        unfold kindB
        refine decide_eq_true ?_
        by_cases h1 : 1 ≤ kd ∧ kd ≤ 10
        · exact h1
        · have h : sizeK kd = 0 := by unfold sizeK; rw [if_neg (by omega), if_neg (by omega), if_neg (by omega), if_neg (by omega)]
          unfold szN at hz1k
          rw [h] at hz1k
          exact absurd hz1k (by decide))
      have HEL2 := hid hel; have HFN := hid hfn; have HBAD := hid hbad; have HNX := hid hnx; have HS8 := hid hs8
      have HZ1 := hid hz1k
      clear hel hfn hbad hnx hc1 hc8
      have hka := (Keep.refl (fun _ => False) wr).alloc (.cells #[.string nm, .int .i64 kd, .int .i64 (cn : Int)] 45)
      have hfb := heap_alloc_new wr (.cells #[.string nm, .int .i64 kd, .int .i64 (cn : Int)] 45)
      have HFB := hid hfb
      have HKA := hid (HKW.out.trans hka)
      have HOA := hid (owns_keep HOV.out (fun j hj => hka.block j (HOV.out.lt j hj).2 id))
      clear hfb hka
      go_upto_region 10 with fail
      generalize wr.alloc (.cells #[.string nm, .int .i64 kd, .int .i64 (cn : Int)] 45) = wa at *
      generalize wr.heap.size = fb at *
      clear c0 c1 c2
      have e1 : wa.cell? ⟨fb, 1, none⟩ = some (.int .i64 kd) := cell_of HFB.out (by rfl)
      go_wp2_with fail
      refine (size_of kd _).mono ?_
      rintro r w4 ⟨rfl, hk4⟩
      rw [sz_cast]
      have HK4 := hid (HKA.out.trans hk4); have HO4 := hid (owns_keep HOA.out (fun j hj => hk4.block j (HOA.out.lt j hj).2 id)); have HF4 := hid (hk4.get HFB.out id)
      clear hk4 e1
      obtain ⟨zz, hzz⟩ : ∃ zz, szN kd = zz := ⟨_, rfl⟩
      have HZZ := hid hzz
      rw [hzz] at HEL2 HBAD HS8 HZ1 ⊢
      clear hzz hs8 hz1k
      have e2 : w4.cell? ⟨fb, 2, none⟩ = some (.int .i64 (cn : Int)) := cell_of HF4.out (by rfl)
      go_wp2_with fail
      clear e2
      go_loopw [8, 12, 13, 14, 15, 43] (fun vv _ _ _ _ i wy => ∃ j : Nat, j ≤ cn ∧ i = iV j ∧ wy.ownsRow w2.heap.size 54 3 vv (rs ++ unEl s kd at_ j).length ((rs ++ unEl s kd at_ j).flatMap wcl) ∧ Keep (fun _ => False) w2 wy ∧ wy.heap[fb]? = some (.cells #[.string nm, .int .i64 kd, .int .i64 (cn : Int)] 45 (0, 0)) ∧ (unEl s kd at_ j).all (fitsB kd) = true) (fun _ _ _ _ _ i _ => cn + 1 - (RowKit.intOf i).toNat)
      case atStart => exact ⟨0, by omega, rfl, by rw [show unEl s kd at_ 0 = [] from rfl, List.append_nil]; exact HO4.out, HK4.out, HF4.out, rfl⟩
      case round =>
        obtain ⟨j, hj, rfl, hoj, hkj, hfj, haj⟩ := hrel
        obtain ⟨vq, vd, rfl⟩ := owns_val hoj
        have hwl : (rs ++ unEl s kd at_ j).length ≤ 100 := by rw [List.length_append, unEl_len]; have := HRL.out; omega
        obtain ⟨ws, hws⟩ : ∃ ws, rs ++ unEl s kd at_ j = ws := ⟨_, rfl⟩
        rw [hws] at hoj hwl ⊢
        have HWS := hid hws
        clear hws
        have HOJ := hid hoj; have HKJ := hid hkj; have HFJ := hid hfj; have HAJ := hid haj
        clear hoj hkj hfj haj
        by_cases hjt : j < cn
        · have hpc := (HBC.out _ HKJ.out).2
          have hcc := HCA.out _ HKJ.out
          obtain ⟨jz, hjz⟩ : ∃ jz, j * zz = jz := ⟨_, rfl⟩
          have hmul : (j : Int) * (zz : Int) = (jz : Int) := by rw [← hjz]; exact (Int.natCast_mul j zz).symm
          have hjz64 : jz ≤ 64 := by rw [← hjz]; exact Nat.mul_le_mul (show j ≤ 8 by omega) HS8.out
          have hel2 : at_ + jz + zz ≤ s.size := by rw [← hjz]; exact HEL2.out j hjt
          have hz8 := HS8.out
          have HNXT : Hid (unEl s kd at_ (j + 1) = unEl s kd at_ j ++ [getV kd (elB s (at_ + jz) zz)]) := hid (by rw [unEl_next, HZZ.out, hjz])
          have HBJ : Hid (fitsB kd (getV kd (elB s (at_ + jz) zz)) = false → unOk fs s = false) := hid (fun h => HBAD.out j hjt (by rw [hjz]; exact h))
          have HEZ : Hid ((elB s (at_ + jz) zz).size = zz) := hid (by unfold elB; rw [ByteArray.size_extract]; omega)
          have HEB : Hid (elB s (at_ + jz) zz = s.extract (at_ + jz) (at_ + jz + zz)) := hid rfl
          clear hjz
          go_upto_region 15 with fail
          have e1 : wr.drew.cell? ⟨fb, 1, none⟩ = some (.int .i64 kd) := cell_of (w := wr.drew) HFJ.out (by rfl)
          have g3 : (0 : Int) ≤ (at_ : Int) + (jz : Int) ∧ (at_ : Int) + (jz : Int) ≤ (at_ : Int) + (jz : Int) + (zz : Int) ∧ (at_ : Int) + (jz : Int) + (zz : Int) ≤ (s.size : Int) := ⟨by omega, by omega, by omega⟩
          obtain ⟨gx, ge, hR, hR1, hR2⟩ : ∃ (gx : WI) (ge : Nat), getR kd (elB s (at_ + jz) zz) = .tuple #[WV gx, iV ge] ∧ (fitsB kd (getV kd (elB s (at_ + jz) zz)) = true → gx = getV kd (elB s (at_ + jz) zz) ∧ ge = 0) ∧ (fitsB kd (getV kd (elB s (at_ + jz) zz)) = false → ge = 4) := by
            refine ⟨_, _, rfl, ?_, ?_⟩
            · intro h; rw [if_pos h, if_pos h]; exact ⟨rfl, rfl⟩
            · intro h; rw [if_neg (by rw [h]; simp)]
          have HR := hid hR; have HR1 := hid hR1; have HR2 := hid hR2
          have HGET : Hid (∀ wz, Calls Tryz.prog 87 #[.int .i64 kd, .string (s.extract (at_ + jz) (at_ + jz + zz))] wz fun r w' => r = .returned (.tuple #[WV gx, iV ge]) ∧ Keep (fun _ => False) wz w') := hid (fun wz => by
            have h := f_get kd HKD.out (elB s (at_ + jz) zz) (by rw [HEZ.out, HZZ.out]) wz
            rwa [HR.out, HEB.out] at h)
          clear hR hR1 hR2
          go_cut [14, 15] from 44 to 73 (fun x y wx => ∃ xb, x = .pointer (some ⟨xb, 0, none⟩) ∧ y = iV ge ∧ wx.heap[xb]? = some (.cells (WC gx) 54 (0, 0)) ∧ Keep (fun _ => False) wr wx)
          case first =>
            refine Plan.wp_region_tr (.st 0 (.st 1 (.st 2 (.st 3 (.st 4 (.st 5 (.st 6 (.st 7 (.br 8 [] (.st 9 (.st 10 (.st 11 (.ac 12 [9, 10, 11] (.ac 13 [11] (.st 14 .done)))))) 12 [0, 1, 2, 3, 4, 5, 6, 7] (.ac 8 [] (.st 9 (.st 10 (.st 11 (.ac 13 [11] (.st 14 .done))))))))))))))) (by as_aux_lemma => kernel_rfl) (by as_aux_lemma => kernel_rfl) ?_
            iterate 8 (refine Plan.tr_st rfl ?_; go_big_quiet_step (fail); refine wpQuiet_nil ?_)
            refine Plan.tr_br rfl rfl ?_ ?_
            · go_wp2_with fail
              refine (HGET.out _).mono ?_
              rintro r w5 ⟨rfl, hk5⟩
              have HK5 := hid ((Keep.refl (fun _ => False) wr).drew.trans hk5)
              clear hk5 e1
              go_wp2
              refine Plan.trQ_mk ?_ ?_
              · repeat (refine Plan.chk_st rfl ?_ ?_; focus (go_big_quiet_step (fail); exact wpQuiet_nil rfl))
                exact Plan.chk_end
              iterate 3 (refine Plan.tr_st rfl ?_; go_big_quiet_step (fail); refine wpQuiet_nil ?_)
              refine Plan.tr_ac rfl ?_
              go_wp2
              refine Plan.trQ_mk ?_ ?_
              · repeat (refine Plan.chk_st rfl ?_ ?_; focus (go_big_quiet_step (fail); exact wpQuiet_nil rfl))
                exact Plan.chk_end
              refine Plan.tr_ac rfl ?_
              have hxb := heap_alloc_new w5 (.cells Z3 54)
              have HXB := hid hxb
              have HKX := hid (HK5.out.alloc (.cells Z3 54))
              clear hxb
              go_wp2
              refine Plan.trQ_mk ?_ ?_
              · repeat (refine Plan.chk_st rfl ?_ ?_; focus (go_big_quiet_step (fail); exact wpQuiet_nil rfl))
                exact Plan.chk_end
              refine Plan.tr_st rfl ?_; go_big_quiet_step (fail); refine wpQuiet_nil ?_
              refine Plan.tr_end ?_
              go_wp2
              go_meet
              case rel => exact ⟨_, rfl, rfl, heap_alloc_new w5 _, HK5.out.alloc _⟩
            · have hxb : (wr.alloc (.cells Z3 54)).drew.heap[wr.heap.size]? = some (.cells Z3 54 (0, 0)) := heap_alloc_new wr (.cells Z3 54)
              have HXB := hid hxb
              have HKX0 : Hid (Keep (fun _ => False) wr (wr.alloc (.cells Z3 54)).drew) := hid ((Keep.refl (fun _ => False) wr).alloc (.cells Z3 54)).drew
              have e2 : (wr.alloc (.cells Z3 54)).drew.cell? ⟨fb, 1, none⟩ = some (.int .i64 kd) := cell_of (HKX0.out.get HFJ.out id) (by rfl)
              clear hxb
              go_wp2
              refine Plan.trQ_mk ?_ ?_
              · repeat (refine Plan.chk_st rfl ?_ ?_; focus (go_big_quiet_step (fail); exact wpQuiet_nil rfl))
                exact Plan.chk_end
              refine Plan.tr_ac rfl ?_
              go_wp2_with fail
              refine (HGET.out _).mono ?_
              rintro r w5 ⟨rfl, hk5⟩
              have HK5 := hid (HKX0.out.trans hk5)
              have HX5 := hid (hk5.get HXB.out id)
              clear hk5 e1 e2
              go_wp2
              refine Plan.trQ_mk ?_ ?_
              · repeat (refine Plan.chk_st rfl ?_ ?_; focus (go_big_quiet_step (fail); exact wpQuiet_nil rfl))
                exact Plan.chk_end
              iterate 3 (refine Plan.tr_st rfl ?_; go_big_quiet_step (fail); refine wpQuiet_nil ?_)
              refine Plan.tr_ac rfl ?_
              have x0 := cell_of HX5.out (i := 0) (by rfl)
              have x1 := cell_of HX5.out (i := 1) (by rfl)
              have x2 := cell_of HX5.out (i := 2) (by rfl)
              have y0 := free_of HX5.out 0
              have y1 := free_of HX5.out 1
              have y2 := free_of HX5.out 2
              go_wp2
              refine Plan.trQ_mk ?_ ?_
              · repeat (refine Plan.chk_st rfl ?_ ?_; focus (go_big_quiet_step (fail); exact wpQuiet_nil rfl))
                exact Plan.chk_end
              refine Plan.tr_st rfl ?_; go_big_quiet_step (fail); refine wpQuiet_nil ?_
              refine Plan.tr_end ?_
              go_wp2
              go_meet
              case rel => exact ⟨_, rfl, rfl, (cells3 (.bool gx.neg) (.int .u64 (gx.hi : Int)) (.int .u64 (gx.lo : Int)) HX5.out), ((HK5.out.setCell_new (p := ⟨wr.heap.size, 0, none⟩) (Nat.le_refl _) _).setCell_new (p := ⟨wr.heap.size, 1, none⟩) (Nat.le_refl _) _).setCell_new (p := ⟨wr.heap.size, 2, none⟩) (Nat.le_refl _) _⟩
          case rest =>
          obtain ⟨xb, rfl, rfl, hxb, hkx⟩ := hcut
          have HXB := hid hxb
          have HKC := hid (HKJ.out.trans hkx)
          have HOC := hid (owns_keep HOJ.out (fun i hi => hkx.block i (HOJ.out.lt i hi).2 id))
          have HFC := hid (hkx.get HFJ.out id)
          clear hxb hkx hpc hcc e1 g3
          cases hft : fitsB kd (getV kd (elB s (at_ + jz) zz))
          · obtain rfl := HR2.out hft
            have G1 : Hid (unE fs s = 4) := hid (by rw [HUE3.out, HBJ.out hft]; rfl)
            have G2 := hid (HUV.out 4 G1.out (by decide))
            clear hft
            go_wp2
            (try simp only [Exit.inBlock, Exit.then])
            refine bodyPost_ret (results_tt2 rfl _) rfl ?_
            rw [G1.out, G2.out]
            exact ⟨none, 0, rfl, World.ownsRow_nil _ _ _ _, HW2.out _ HKC.out⟩
          · obtain ⟨hgx, rfl⟩ := HR1.out hft
            have HGX := hid hgx
            have HFT := hid hft
            clear hft hgx
            have x0 := cell_of HXB.out (i := 0) (by rfl)
            have x1 := cell_of HXB.out (i := 1) (by rfl)
            have x2 := cell_of HXB.out (i := 2) (by rfl)
            have hsw := HKC.out.size
            go_wp2_with (at_builtin; go_loud (refine wpList_append_rd rfl (.tmp 69) (.tmp 71) _ rfl w2.heap.size _ i0 _ 3 24 Tryz.underlying28 hi0 hz0 hz1 hz2 rfl (by decide) _ ws.length _ (by rfl) (HOC.out.alloc _) _ 1 [.bool gx.neg, .int .u64 (gx.hi : Int), .int .u64 (gx.lo : Int)] (by rfl) (rd_block (heap_alloc_new wc _) (by simp) (by simp [Value.oneCell'])) (by unfold maxLen; omega) (by omega) (by simp; omega) ?_); go_loud (intro v' w5 hown5 hgrow5 hat5 hn5; obtain ⟨vp, vo, rfl⟩ := owns_val hown5))
            have hal := (Keep.refl (fun _ => False) wc).alloc (.cells #[.bool gx.neg, .int .u64 (gx.hi : Int), .int .u64 (gx.lo : Int)] 54)
            have hfa := hal.get HFC.out id
            have HF5 : Hid (w5.heap[fb]? = some (.cells #[.string nm, .int .i64 kd, .int .i64 (cn : Int)] 45 (0, 0))) := hid (by
              rw [hgrow5.block fb (lt_of_heap hfa) (fun e => owns_ne (HOC.out.alloc _) hfa ne_fld e.symm)]
              exact hfa)
            have HK5 : Hid (Keep (fun _ => False) w2 w5) := hid ((HKC.out.alloc _).grown hgrow5 (fun k hk => .inl (HOC.out.lt k hk).1))
            have HO5 := hid hown5
            have HJN : Hid (rs ++ unEl s kd at_ (j + 1) = ws ++ [gx]) := hid (by rw [HNXT.out, ← List.append_assoc, HWS.out, HGX.out])
            clear hown5 hgrow5 hat5 hn5 hal hfa x0 x1 x2 hsw
            go_roundw
            case rel =>
              refine ⟨j + 1, by omega, by go_num, ?_, HK5.out, HF5.out, ?_⟩
              · rw [HJN.out, List.length_append, List.flatMap_append]
                have h := HO5.out
                simpa [wcl] using h
              · rw [HNXT.out, List.all_append, HAJ.out, ← HGX.out]
                have := HFT.out
                rw [← HGX.out] at this
                simp [this]
            case measure => simp [RowKit.intOf]; omega
        · obtain rfl : j = cn := by omega
          have HNX2 : Hid ((unRun s (fs.take (k + 1))).2 = ws) := hid (by rw [HNX.out, HWS.out])
          have HFN2 : Hid (unFl s fs (k + 1) = true) := hid (by rw [HFN.out, HAJ.out]; rfl)
          have HRL2 : Hid (ws.length ≤ 8 * (k + 1)) := hid (by rw [← HWS.out, List.length_append, unEl_len]; have := HRL.out; omega)
          go_wp2
          go_roundw
          case rel => exact ⟨k + 1, ws, by omega, by go_num, HNX2.out.symm, HFN2.out, HRL2.out, HOJ.out, HKJ.out⟩
          case measure => simp [RowKit.intOf]; omega
    · obtain rfl : k = fs.length := by omega
      have hrow : rs = unRow fs s := by rw [HRS.out, List.take_length]; rfl
      have hfr : fitRun fs rs = true := by rw [hrow, ← unFl_all]; exact HFL.out
      have hlen : rs.length = sumN fs := by have := (un_inv s fs fs.length (Nat.le_refl _)).2; rw [List.take_length] at this; rw [hrow]; exact this
      have hfc : fitC fs rs = 0 := by unfold fitC; rw [if_pos HZ.out, if_pos hlen, if_pos hfr]
      have hps : packS fs rs = ⟨(packL fs rs).toArray⟩ := by unfold packS; rw [if_pos hfc]
      have hok : unOk fs s = decide ((⟨(packL fs rs).toArray⟩ : ByteArray) = s) := by unfold unOk; rw [← hrow, hfr]; rfl
      have hfit : ∀ x ∈ rs, x.fit := by
        rw [hrow]
        have key : ∀ m, m ≤ fs.length → ∀ x ∈ (unRun s (fs.take m)).2, x.fit := by
          intro m
          induction m with
          | zero => intro _ x hx; rw [List.take_zero] at hx; cases hx
          | succ m ih =>
            intro hm x hx
            obtain ⟨f, hf⟩ : ∃ f, fs[m]? = some f := ⟨fs[m], by simp [show m < fs.length by omega]⟩
            rw [unRun_next hf] at hx
            rcases List.mem_append.1 hx with h | h
            · exact ih (by omega) x h
            · obtain ⟨i, _, rfl⟩ := List.mem_map.1 h
              exact getV_fit _ _
        have := key fs.length (Nat.le_refl _)
        rw [List.take_length] at this
        exact this
      have HROW := hid hrow; have HFC := hid hfc; have HPK := hid hps; have HOK2 := hid hok
      have hxp := xp_own rfl HOV.out
      have hfp := FP.mono (FP.low HF.out (Low.keep0 (HW2.out _ HKW.out))) (HW2.out _ HKW.out).size
      have HPACK := hid (lay_pack fs p cap rs va vc wr HCP.out (owns_cap HOV.out) (by have := HRL.out; omega) hfit hfp hxp)
      clear hrow hfr hlen hfc hps hok hfit hxp hfp
      go_wp2_with fail
      refine HPACK.out.mono ?_
      rintro r w6 ⟨rfl, hk6⟩
      rw [HPK.out, HFC.out]
      have HK6 := hid (HKW.out.trans hk6)
      have HO6 := hid (owns_keep HOV.out (fun i hi => hk6.block i (HOV.out.lt i hi).2 id))
      clear hk6
      generalize (⟨(packL fs rs).toArray⟩ : ByteArray) = bk at *
      by_cases hbk : bk = s
      · have g1 : (!bk.toList == s.toList) = false := by rw [hbk]; simp
        have G1 : Hid (unE fs s = 0) := hid (by rw [HUE3.out, HOK2.out, decide_eq_true hbk]; rfl)
        have G2 : Hid (unV fs s = rs) := hid (by unfold unV; rw [if_pos G1.out, HROW.out])
        clear hbk
        go_wp2
        (try simp only [Exit.inBlock, Exit.then])
        refine bodyPost_ret (results_tt2 rfl _) rfl ?_
        rw [G1.out, G2.out]
        exact ⟨va, vc, rfl, owns_mono HO6.out HP2.out, HW2.out _ HK6.out⟩
      · have g1 : (!bk.toList == s.toList) = true := by rw [beq_eq_false_iff_ne.2 (fun h => hbk (toList_inj h))]; rfl
        have G1 : Hid (unE fs s = 4) := hid (by rw [HUE3.out, HOK2.out, decide_eq_false hbk]; rfl)
        have G2 := hid (HUV.out 4 G1.out (by decide))
        clear hbk
        go_wp2
        (try simp only [Exit.inBlock, Exit.then])
        refine bodyPost_ret (results_tt2 rfl _) rfl ?_
        rw [G1.out, G2.out]
        exact ⟨none, 0, rfl, World.ownsRow_nil _ _ _ _, HW2.out _ HK6.out⟩
end Go.Proofs.YtfehiclbcebnoaaGreat

namespace Go.Proofs.Plan
section
variable {P : Program} {ops : Array Oper}

theorem wpQuiet_load {Q : Act → Prop} {rest : List Oper} {a : Act} {o : Oper} {w : World} (hgd : o.guard = none) (ty : TypeId) (x : Operand) (ho : o.op = .load ty x) (ad : Addr) (hx : a.eval x = .pointer (some ad)) (v : Value)
    (hl : (loadVar ty ad).run P w = .ok v w) (h : wpQuiet P ops (fun w' => w' = w) Q rest (a.put o.dst v)) : wpQuiet P ops (fun w' => w' = w) Q (o :: rest) a := by
  refine BigFrame.wpQuiet_want (by simp [Region.wanted, hgd]) fun K hK => ⟨v, fun w' hw' => ?_, hK _ h⟩
  subst hw'
  unfold Oper.quietAt execOp
  simp [ho, hx, Instr.loadAt, Instr.sureAddr, hl]
  exact ⟨rfl, rfl⟩
end
end Go.Proofs.Plan

namespace Go.Proofs.YtfehiclbcebnoaaGreat
open Go.RowKit Go.Proofs.Heap Go.Proofs.Sch Go.Proofs.Wide

/-- What readPart answers. -/
def PtP (b : Nat) (cs : List Cmp) (st : St) (w : World) (r : Ending) (w' : World) : Prop := ∃ a c, r = .returned (.tuple #[.agg #[.int .i64 (rdPt cs st).1.1.comp, .slice a (rdPt cs st).1.1.vals.length c], .bool (rdPt cs st).1.2]) ∧
  w'.ownsRow w.heap.size 54 3 (.slice a (rdPt cs st).1.1.vals.length c) (rdPt cs st).1.1.vals.length ((rdPt cs st).1.1.vals.flatMap wcl) ∧ RdS w' b (rdPt cs st).2.1 (rdPt cs st).2.2 ∧ Keep (fun g => g = b) w w'
theorem info_prtZ : (Tryz.prog.info? 30).map (fun i => (i.zero, i.size, i.bytes)) = some (some (.agg #[.int .i64 0, .slice none 0 0]), 2, 32) := by kernel_rfl
theorem info_prtY : (Tryz.prog.info? 30).map (·.size) = some 2 := by kernel_rfl
theorem load_prtZ {w : World} {b : Nat} {x0 x1 : Value} (h : w.heap[b]? = some (.cells #[x0, x1] 30 (0, 0))) : (loadVar 30 ⟨b, 0, none⟩).run Tryz.prog w = .ok (.agg #[x0, x1]) w :=
  run_loadVar_row w b _ 30 _ _ _ h Tryz.underlying30 rfl (by rw [info_prtY]; rfl)

set_option maxRecDepth 20000 in
set_option maxHeartbeats 16000000 in
theorem sc_readPart (b B : Nat) (st : St) (v : Int) (cs : List Cmp) (p : Option Addr) (cap : Nat) (w : World) (hl : Small cs) (hs : st.1.size ≤ 9223372036854775807) (hB : B ≤ b) (hc : CP w B p cs) (h : RdS w b st.1 st.2) :
    Calls Tryz.prog 28 #[.agg #[.int .i64 v, .slice p cs.length cap], .pointer (some ⟨b, 0, none⟩)] w (PtP b cs st w) := by
  obtain ⟨⟨n, st1⟩, e1⟩ : ∃ x, rdN 1 st = x := ⟨_, rfl⟩
  have z1 := rdN_size 1 st; rw [e1] at z1
  have l1 : n < 256 := by have := rdN_lt 1 st; rwa [e1] at this
  have C1 := fun wy (h : RdS wy b st.1 st.2) => rd_num b st 1 (by unfold WideOk; omega) wy hs h
  rw [e1] at C1
  have HC1 := hid C1
  have HZ1 : Hid (st1.1.size ≤ 9223372036854775807) := hid (by simp only at z1; omega)
  have HE1 := hid e1; have HN := hid l1
  have HBA : Hid (b < w.heap.size) := hid (lt_of_heap h)
  have HBB := hid hB
  have HCP := hid (fun (wy : World) (hk : Keep (fun g => g = b) w wy) => CP.mono (CP.low hc (Low.of_keep hk (by have := lt_of_heap h; omega) (fun k e => by omega))) (show B ≤ wy.heap.size by have := hk.size; have := lt_of_heap h; omega))
  have HL := hid hl
  clear e1 z1 l1 C1 hs hc hl hB
  obtain ⟨w1, hw1, hb1, hb2, hs1, hk1⟩ := box2 w #[.int .i64 v, .slice p cs.length cap] #[.int .i64 0, .slice none 0 0] 24 30
  have HK1 := hid (hk1.mono (T := fun g => g = b) (fun _ _ h => h.elim)); have HX1 := hid hb1; have HA1 := hid hb2
  have HR1 := hid (h.keep0 hk1)
  clear hb1 hb2 hs1 hk1 h
  go_enter Tryz.func28, Tryz.ntmps28
  go_upto_region 1 with fail
  rw [← hw1]
  clear hw1
  obtain ⟨A, hA⟩ : ∃ A, w.heap.size + 1 = A := ⟨_, rfl⟩
  obtain ⟨X, hX⟩ : ∃ X, w.heap.size = X := ⟨_, rfl⟩
  have HXA : Hid (X + 1 = A) := hid (by omega)
  rw [hA] at HA1 ⊢
  have HWX := hid hX
  rw [hX] at HX1 HBA ⊢
  clear hA hX
  go_wp2_with fail
  refine (HC1.out w1 HR1.out).mono ?_
  rintro r w2 ⟨rfl, hr, hk⟩
  have HR2 := hid hr; have HK2 := hid (HK1.out.trans hk)
  have HA2 := hid (hk.get HA1.out (fun e => by have := HBA.out; have := HXA.out; omega))
  have HX2 := hid (hk.get HX1.out (fun e => by have := HBA.out; omega))
  clear hr hk
  have hwn : wrap64 (n : Int) = (n : Int) := by have := HN.out; unfold wrap64; omega
  obtain ⟨w3, hw3, hb3, hs3, hk3⟩ := box1 w2 #[.int .i64 (n : Int), .slice none 0 0] 30
  have HS3 := hid hb3; have HK3 := hid (HK2.out.trans (hk3.mono (T := fun j => j = b) (fun _ _ h => h.elim)))
  have HA3 := hid (hk3.get HA2.out (fun e => e)); have HX3 := hid (hk3.get HX2.out (fun e => e))
  have HR3 := hid (HR2.out.keep0 hk3)
  clear hb3 hs3 hk3
  go_upto_region 2 with fail
  (try rw [hwn])
  rw [← hw3]
  clear hw3 hwn
  obtain ⟨S, hS⟩ : ∃ S, w2.heap.size = S := ⟨_, rfl⟩
  have HAS : Hid (A < S) := hid (by have := lt_of_heap HA2.out; omega)
  rw [hS] at HS3 ⊢
  clear hS
  have c0 := cell_of HX3.out (i := 0) (by rfl)
  have c1 := cell_of HX3.out (i := 1) (by rfl)
  have e0 := cell_of HS3.out (i := 0) (by rfl)
  go_wp2_with fail
  refine (sch_find (n : Int) v cs p cap w3 HL.out (HCP.out w3 HK3.out)).mono ?_
  rintro r w4 ⟨hr, hk⟩
  have HK4 := hid (HK3.out.trans (hk.mono (T := fun j => j = b) (fun _ _ h => h.elim)))
  have HA4 := hid (hk.get HA3.out (fun e => e)); have HS4 := hid (hk.get HS3.out (fun e => e))
  have HR4 := hid (HR3.out.keep0 hk)
  clear hk c0 c1 e0
  cases hf : cs.find? (fun c => decide (c.id = (n : Int))) with
  | none =>
    obtain rfl := found_none hr hf
    have HPT : Hid (rdPt cs st = ((⟨(n : Int), []⟩, false), st1)) := hid (by unfold rdPt; simp only [HE1.out, hf])
    clear hr hf
    obtain ⟨w5, hw5, hb5, hs5, hk5⟩ := box1 w4 #[.int .i64 0, .string ⟨#[]⟩, .slice none 0 0] 48
    have HK5 := hid (HK4.out.trans (hk5.mono (T := fun j => j = b) (fun _ _ h => h.elim)))
    have HA5 := hid (hk5.get HA4.out (fun e => e)); have HS5 := hid (hk5.get HS4.out (fun e => e))
    have HR5 := hid (HR4.out.keep0 hk5)
    clear hb5 hs5 hk5
    go_upto_region 3 with fail
    rw [← hw5]
    clear hw5
    have d0 := cell_of HS5.out (i := 0) (by rfl)
    have d1 := cell_of HS5.out (i := 1) (by rfl)
    have a0 := cell_of HA5.out (i := 0) (by rfl)
    have a1 := cell_of HA5.out (i := 1) (by rfl)
    have v0 := free_of HA5.out 0
    have v1 := free_of HA5.out 1
    go_wp2
    (try simp only [Exit.inBlock, Exit.then])
    refine bodyPost_ret (results_ct rfl _ rfl (load_prtZ (cells2 (.int .i64 (n : Int)) (.slice none 0 0) HA5.out))) rfl ?_
    have hkf := ((Keep.refl (fun k => k = A) w5).setCell (p := ⟨A, 0, none⟩) rfl (.int .i64 (n : Int))).setCell (p := ⟨A, 1, none⟩) rfl (.slice none 0 0)
    unfold PtP
    rw [HPT.out]
    refine ⟨none, 0, rfl, World.ownsRow_nil _ _ _ _, hkf.get HR5.out (fun e => by have := HBA.out; have := HXA.out; omega), HK5.out.trans' hkf (fun i hi e => by have := HWX.out; have := HXA.out; omega)⟩
  | some c =>
    obtain ⟨cp, cz, rfl, hcz, hco⟩ := found_one hr hf
    obtain ⟨⟨raw, st2⟩, e2⟩ : ∃ x, rdRaw (ofSize c.fs) st1 = x := ⟨_, rfl⟩
    have HPT : Hid (rdPt cs st = ((⟨(n : Int), unV c.fs raw⟩, decide (unE c.fs raw = 0) && !st2.2), st2)) := hid (by unfold rdPt; simp only [HE1.out, hf, e2])
    have HCO := hid hco; have HCZ := hid hcz
    have C2 := fun wy (h : RdS wy b st1.1 st1.2) => rd_raw b (ofSize c.fs) st1 wy HZ1.out h
    rw [e2] at C2
    have HC2 := hid C2
    have HZR : Hid (raw.size ≤ 9223372036854775807) := hid (by
      have h1 := HZ1.out
      have h2 : raw = (rdRaw (ofSize c.fs) st1).1 := by rw [e2]
      rw [h2]
      unfold rdRaw
      split
      · rw [ByteArray.size_extract]; omega
      · exact Nat.zero_le _)
    clear hr hf hco hcz e2 C2
    obtain ⟨w5, hw5, hb5, hs5, hk5⟩ := box1 w4 #[.int .i64 c.id, .string c.name, .slice cp c.fs.length cz] 48
    have HK5 := hid (HK4.out.trans (hk5.mono (T := fun j => j = b) (fun _ _ h => h.elim)))
    have HA5 := hid (hk5.get HA4.out (fun e => e)); have HS5 := hid (hk5.get HS4.out (fun e => e))
    have HR5 := hid (HR4.out.keep0 hk5)
    have HC5 := hid hb5
    have HO5 := hid (owns_keep HCO.out (fun j hj => hk5.block j (HCO.out.lt j hj).2 (fun e => e)))
    have HG : Hid (S < w4.heap.size) := hid (lt_of_heap HS4.out)
    clear hb5 hs5 hk5
    go_upto_region 3 with fail
    rw [← hw5]
    clear hw5
    obtain ⟨G, hG⟩ : ∃ G, w4.heap.size = G := ⟨_, rfl⟩
    rw [hG] at HC5 HG ⊢
    clear hG
    have c2 := cell_of HC5.out (i := 2) (by rfl)
    go_wp2_with fail
    refine (lay_of c.fs cp cz w5 (fp_own rfl HO5.out)).mono ?_
    rintro r w6 ⟨pa, pc, rfl, _, hk⟩
    have HK6 := hid (HK5.out.trans (hk.mono (T := fun j => j = b) (fun _ _ h => h.elim)))
    have HA6 := hid (hk.get HA5.out (fun e => e)); have HS6 := hid (hk.get HS5.out (fun e => e)); have HC6 := hid (hk.get HC5.out (fun e => e))
    have HR6 := hid (HR5.out.keep0 hk)
    have HO6 := hid (owns_keep HO5.out (fun j hj => hk.block j (HO5.out.lt j hj).2 (fun e => e)))
    clear hk c2
    obtain ⟨w7, hw7, hb7, hs7, hk7⟩ := box1 w6 #[iV (ofSize c.fs), .slice pa (ofAt c.fs).length pc] 95
    have HK7 := hid (HK6.out.trans (hk7.mono (T := fun j => j = b) (fun _ _ h => h.elim)))
    have HA7 := hid (hk7.get HA6.out (fun e => e)); have HS7 := hid (hk7.get HS6.out (fun e => e)); have HC7 := hid (hk7.get HC6.out (fun e => e))
    have HR7 := hid (HR6.out.keep0 hk7)
    have HP7 := hid hb7
    have HO7 := hid (owns_keep HO6.out (fun j hj => hk7.block j (HO6.out.lt j hj).2 (fun e => e)))
    have HCB : Hid (∀ j, (Value.slice cp c.fs.length cz).ownBlock = some j → b ≠ j) := hid (fun j hj e => by have := (HCO.out.lt j hj).1; have := lt_of_heap HR3.out; omega)
    have HPB : Hid (b ≠ w6.heap.size) := hid (by have := lt_of_heap HR6.out; omega)
    clear hb7 hs7 hk7
    go_upto_region 6 with fail
    rw [← hw7]
    clear hw7
    generalize w6.heap.size = L at *
    generalize hOS : ofSize c.fs = os at *
    have HOS := hid hOS
    clear hOS
    refine Plan.wp_region_pl [(false, 0, []), (false, 1, []), (false, 2, []), (false, 3, []), (false, 4, []), (true, 5, [1, 0]), (true, 6, []), (false, 7, []), (false, 8, []), (false, 9, []), (false, 10, []), (false, 11, [])] (by as_aux_lemma => kernel_rfl) (by as_aux_lemma => kernel_rfl) ?_
    have HR7' : Hid (RdS w7.drew b st1.1 st1.2) := HR7
    have HC7' : Hid (w7.drew.heap[G]? = _) := HC7
    have HP7' : Hid (w7.drew.heap[L]? = _) := HP7
    have HS7' : Hid (w7.drew.heap[S]? = _) := HS7
    have HA7' : Hid (w7.drew.heap[A]? = _) := HA7
    have HO7' := hid (owns_keep (w' := w7.drew) HO7.out (fun _ _ => rfl))
    have HK7' := hid HK7.out.drew
    clear HR7 HC7 HP7 HS7 HA7 HO7 HK7
    generalize w7.drew = wd at *
    have c2 := cell_of HC7'.out (i := 2) (by rfl)
    have p0 := cell_of HP7'.out (i := 0) (by rfl)
    iterate 5 (refine Plan.pl_st rfl ?_; go_big_quiet_step (fail); refine wpQuiet_nil ?_)
    refine Plan.pl_ac rfl ?_
    go_wp2_with fail
    refine (HC2.out wd HR7'.out).mono ?_
    rintro r w8 ⟨rfl, hr, hk⟩
    have HR8 := hid hr; have HK8 := hid (HK7'.out.trans hk)
    have HS8 := hid (hk.get HS7'.out (fun e => by have := HBA.out; have := HXA.out; have := HAS.out; omega))
    have HA8 := hid (hk.get HA7'.out (fun e => by have := HBA.out; have := HXA.out; omega))
    have HC8 := hid (hk.get HC7'.out (fun e => by have := HBA.out; have := HXA.out; have := HAS.out; have := HG.out; omega))
    have HP8 := hid (hk.get HP7'.out (fun e => HPB.out e.symm))
    have HO8 := hid (owns_keep HO7'.out (fun j hj => hk.block j (HO7'.out.lt j hj).2 (fun e => HCB.out j hj e.symm)))
    clear hr hk c2 p0
    have c2 := cell_of HC8.out (i := 2) (by rfl)
    have p0 := cell_of HP8.out (i := 0) (by rfl)
    go_wp2
    refine Plan.plQ_mk ?_ ?_
    · iterate 2 (refine Plan.chk_st rfl ?_ ?_; focus (go_big_quiet_step (fail); exact wpQuiet_nil rfl))
      exact Plan.chk_end
    refine Plan.pl_ac rfl ?_
    go_wp2_with fail
    refine (lay_unpack c.fs cp cz raw w8 HCZ.out HZR.out (fp_own rfl HO8.out)).mono ?_
    rintro r w9 ⟨ua, uc, rfl, hu, hk⟩
    have HU9 := hid hu; have HK9 := hid (HK8.out.trans (hk.mono (T := fun j => j = b) (fun _ _ h => h.elim)))
    have HS9 := hid (hk.get HS8.out (fun e => e)); have HA9 := hid (hk.get HA8.out (fun e => e))
    have HR9 := hid (HR8.out.keep0 hk)
    have HS8L : Hid (S < w8.heap.size) := hid (lt_of_heap HS8.out)
    clear hk hu c2 p0
    generalize hUV : unV c.fs raw = uv at *
    clear hUV
    obtain ⟨E, hE⟩ : ∃ E, unE c.fs raw = E := ⟨_, rfl⟩
    have HE := hid hE
    rw [hE]
    clear hE
    go_wp2
    refine Plan.plQ_mk Plan.chk_end ?_
    iterate 5 (refine Plan.pl_st rfl ?_; go_big_quiet_step (fail); refine wpQuiet_nil ?_)
    refine Plan.pl_end ?_
    have s1 := cell_of HS9.out (i := 1) (by rfl)
    have f1 := free_of HS9.out 1
    have HSS : Hid ((w9.setCell ⟨S, 1, none⟩ (.slice ua uv.length uc)).heap[S]? = some (.cells #[.int .i64 (n : Int), .slice ua uv.length uc] 30 (0, 0))) := hid (by simpa using hsc_same HS9.out 1 (.slice ua uv.length uc))
    have hks := (Keep.refl (fun k => k = S) w9).setCell (p := ⟨S, 1, none⟩) rfl (.slice ua uv.length uc)
    have HAS2 := hid (hks.get HA9.out (fun e => by have := HAS.out; omega))
    have HRS := hid (hks.get HR9.out (fun e => by have := HBA.out; have := HXA.out; have := HAS.out; omega))
    have HUS := hid (owns_keep HU9.out (fun j hj => hks.block j (HU9.out.lt j hj).2 (fun e => by have := (HU9.out.lt j hj).1; have := HS8L.out; omega)))
    have HKS := hid (HK9.out.trans' hks (fun i hi e => by have := HWX.out; have := HXA.out; have := HAS.out; omega))
    have HUB : Hid (X ≤ w8.heap.size) := hid (by have := HS8L.out; have := HXA.out; have := HAS.out; omega)
    clear hks
    go_upto_region 8 with fail
    clear s1 f1
    generalize w9.setCell ⟨S, 1, none⟩ (.slice ua uv.length uc) = wa at *
    by_cases hE0 : E = 0
    · have g1 : ((E : Int) == 0) = true := by rw [hE0]; rfl
      have g2 : (E == 0) = true := by rw [hE0]; rfl
      obtain ⟨bad, hbad⟩ : ∃ x, st2.2 = x := ⟨_, rfl⟩
      have HBAD := hid hbad
      have HPF : Hid (rdPt cs st = ((⟨(n : Int), uv⟩, !bad), st2)) := hid (by rw [HPT.out, HE.out, hE0, hbad]; rfl)
      clear hE0 hbad HPT
      refine Plan.wp_region_pl [(false, 0, []), (false, 1, []), (false, 2, []), (false, 3, []), (false, 4, []), (true, 5, [0]), (false, 6, []), (false, 7, []), (true, 8, [7, 6]), (false, 9, [])] (by as_aux_lemma => kernel_rfl) (by as_aux_lemma => kernel_rfl) ?_
      have HRd : Hid (RdS wa.drew b st2.1 st2.2) := HRS
      have HSd : Hid (wa.drew.heap[S]? = _) := HSS
      have HAd : Hid (wa.drew.heap[A]? = _) := HAS2
      have HUd := hid (owns_keep (w' := wa.drew) HUS.out (fun _ _ => rfl))
      have HKd := hid HKS.out.drew
      clear HRS HSS HAS2 HUS HKS
      generalize wa.drew = wd2 at *
      have s0 := cell_of HSd.out (i := 0) (by rfl)
      have s1 := cell_of HSd.out (i := 1) (by rfl)
      iterate 5 (refine Plan.pl_st rfl ?_; go_big_quiet_step (fail); refine wpQuiet_nil ?_)
      refine Plan.pl_ac rfl ?_
      go_wp2_with fail
      refine (rd_bad b st2.1 st2.2 _ HRd.out).mono ?_
      rw [HBAD.out]
      rintro r w_ ⟨rfl, rfl⟩
      go_wp2
      refine Plan.plQ_mk ?_ ?_
      · iterate 1 (refine Plan.chk_st rfl ?_ ?_; focus (go_big_quiet_step (fail); exact wpQuiet_nil rfl))
        exact Plan.chk_end
      iterate 2 (refine Plan.pl_st rfl ?_; go_big_quiet_step (fail); refine wpQuiet_nil ?_)
      have a0 := cell_of HAd.out (i := 0) (by rfl)
      have a1 := cell_of HAd.out (i := 1) (by rfl)
      have v0 := free_of HAd.out 0
      have v1 := free_of HAd.out 1
      refine Plan.pl_ac rfl ?_
      go_wp2
      refine Plan.plQ_mk ?_ ?_
      · iterate 2 (refine Plan.chk_st rfl ?_ ?_; focus (go_big_quiet_step (fail); exact wpQuiet_nil rfl))
        exact Plan.chk_end
      iterate 1 (refine Plan.pl_st rfl ?_; go_big_quiet_step (fail); refine wpQuiet_nil ?_)
      refine Plan.pl_end ?_
      go_wp2
      (try simp only [Exit.inBlock, Exit.then])
      refine bodyPost_ret (results_ct rfl _ rfl (load_prtZ (cells2 (.int .i64 (n : Int)) (.slice ua uv.length uc) HAd.out))) rfl ?_
      have hkf := ((Keep.refl (fun k => k = A) wd2).setCell (p := ⟨A, 0, none⟩) rfl (.int .i64 (n : Int))).setCell (p := ⟨A, 1, none⟩) rfl (.slice ua uv.length uc)
      unfold PtP
      rw [HPF.out]
      refine ⟨ua, uc, rfl, owns_mono (owns_keep HUd.out (fun j hj => hkf.block j (HUd.out.lt j hj).2 (fun e => by have := (HUd.out.lt j hj).1; have := HS8L.out; have := HAS.out; omega))) (by have := HUB.out; have := HWX.out; omega), hkf.get HRd.out (fun e => by have := HBA.out; have := HXA.out; omega), HKd.out.trans' hkf (fun i hi e => by have := HWX.out; have := HXA.out; omega)⟩
    · have g1 : ((E : Int) == 0) = false := by rw [beq_eq_false_iff_ne]; omega
      have g2 : (E == 0) = false := by rw [beq_eq_false_iff_ne]; exact hE0
      have HPF : Hid (rdPt cs st = ((⟨(n : Int), uv⟩, false), st2)) := hid (by rw [HPT.out, HE.out, decide_eq_false hE0]; rfl)
      clear hE0 HPT
      refine Plan.wp_region_pl [(false, 0, []), (false, 1, []), (false, 2, []), (false, 3, []), (false, 4, []), (true, 5, [0]), (false, 6, []), (false, 7, []), (true, 8, [7, 6]), (false, 9, [])] (by as_aux_lemma => kernel_rfl) (by as_aux_lemma => kernel_rfl) ?_
      have HRd : Hid (RdS wa.drew b st2.1 st2.2) := HRS
      have HSd : Hid (wa.drew.heap[S]? = _) := HSS
      have HAd : Hid (wa.drew.heap[A]? = _) := HAS2
      have HUd := hid (owns_keep (w' := wa.drew) HUS.out (fun _ _ => rfl))
      have HKd := hid HKS.out.drew
      clear HRS HSS HAS2 HUS HKS
      generalize wa.drew = wd2 at *
      have s0 := cell_of HSd.out (i := 0) (by rfl)
      have s1 := cell_of HSd.out (i := 1) (by rfl)
      iterate 5 (refine Plan.pl_st rfl ?_; go_big_quiet_step (fail); refine wpQuiet_nil ?_)
      refine Plan.pl_ac rfl ?_
      go_wp2
      refine Plan.plQ_mk ?_ ?_
      · iterate 1 (refine Plan.chk_st rfl ?_ ?_; focus (go_big_quiet_step (fail); exact wpQuiet_nil rfl))
        exact Plan.chk_end
      iterate 2 (refine Plan.pl_st rfl ?_; go_big_quiet_step (fail); refine wpQuiet_nil ?_)
      have a0 := cell_of HAd.out (i := 0) (by rfl)
      have a1 := cell_of HAd.out (i := 1) (by rfl)
      have v0 := free_of HAd.out 0
      have v1 := free_of HAd.out 1
      refine Plan.pl_ac rfl ?_
      go_wp2
      refine Plan.plQ_mk ?_ ?_
      · iterate 2 (refine Plan.chk_st rfl ?_ ?_; focus (go_big_quiet_step (fail); exact wpQuiet_nil rfl))
        exact Plan.chk_end
      iterate 1 (refine Plan.pl_st rfl ?_; go_big_quiet_step (fail); refine wpQuiet_nil ?_)
      refine Plan.pl_end ?_
      go_wp2
      (try simp only [Exit.inBlock, Exit.then])
      refine bodyPost_ret (results_ct rfl _ rfl (load_prtZ (cells2 (.int .i64 (n : Int)) (.slice ua uv.length uc) HAd.out))) rfl ?_
      have hkf := ((Keep.refl (fun k => k = A) wd2).setCell (p := ⟨A, 0, none⟩) rfl (.int .i64 (n : Int))).setCell (p := ⟨A, 1, none⟩) rfl (.slice ua uv.length uc)
      unfold PtP
      rw [HPF.out]
      refine ⟨ua, uc, rfl, owns_mono (owns_keep HUd.out (fun j hj => hkf.block j (HUd.out.lt j hj).2 (fun e => by have := (HUd.out.lt j hj).1; have := HS8L.out; have := HAS.out; omega))) (by have := HUB.out; have := HWX.out; omega), hkf.get HRd.out (fun e => by have := HBA.out; have := HXA.out; omega), HKd.out.trans' hkf (fun i hi e => by have := HWX.out; have := HXA.out; omega)⟩
end Go.Proofs.YtfehiclbcebnoaaGreat
