/- What is proved: what layout.Pack answers: the row of a value, or the error. -/
import Derived.Test.YtkgkcnmnfhehfaaPkLaw
import Derived.Test.YtkgkcnmnfhehfaaFound
namespace Go.Proofs.Ytkgkcnmnfhehfaa
open Go.RowKit Go.Proofs.Heap Go.Proofs.Sch Go.Proofs.Wide

theorem built_keep {B b : Nat} {bs : List Value} {w w' : World} (h : Built B b bs w) (hk : Keep (fun _ => False) w w') : Built B b bs w' :=
  h.elim (fun h => .inl (Built.keep0 h hk)) (fun h => .inr (Built.keep0 h hk))

set_option maxRecDepth 20000 in
set_option maxHeartbeats 8000000 in
theorem lay_pack (fs : List Fld) (p : Option Addr) (cap : Nat) (vs : List WI) (q : Option Addr) (qc : Nat) (w : World) (hcap : fs.length ≤ cap) (hqc : vs.length ≤ qc) (hvl : vs.length ≤ 65536) (hfit : ∀ x ∈ vs, x.fit) (hf : FP w w.heap.size p fs) (hv : XP w w.heap.size q vs) :
    Calls Try.prog 11 #[.slice p fs.length cap, .slice q vs.length qc] w fun r w' => r = .returned (.tuple #[.string (packS fs vs), iV (fitC fs vs)]) ∧ Keep (fun _ => False) w w' := by
  have HF := hid hf; have HV := hid hv; have HX := hid hfit
  have HFT := hid (fun w (hf : FP w w.heap.size p fs) (hv : XP w w.heap.size q vs) => lay_fit fs p cap vs q qc w hcap hqc hvl hfit hf hv)
  clear hf hv hfit
  go_enter Try.func11, Try.ntmps11
  go_wp2_with fail
  refine (HFT.out _ HF.out HV.out).mono ?_
  rintro r w1 ⟨rfl, hk1⟩
  have HK1 := hid hk1
  clear hk1 HFT
  generalize hz : fitC fs vs = z at *
  by_cases h0 : z = 0
  rotate_left
  · have g3 : ((z : Int) != 0) = true := by rw [bne, beq_eq_false_iff_ne.2 (show (z : Int) ≠ 0 by omega)]; rfl
    have g4 : (z != 0) = true := by rw [bne, beq_eq_false_iff_ne.2 h0]; rfl
    have G : Hid (packS fs vs = ⟨#[]⟩) := hid (by unfold packS; rw [hz, if_neg h0])
    have GZ := hid hz
    clear h0 hz
    go_wp2
    (try simp only [Exit.inBlock, Exit.then])
    refine bodyPost_ret (results_tt2 rfl _) rfl ?_
    rw [G.out, GZ.out]
    exact ⟨rfl, HK1.out⟩
  subst h0
  have hpr : layC fs = 0 ∧ vs.length = sumN fs ∧ fitRun fs vs = true := by
    unfold fitC at hz
    by_cases h1 : layC fs = 0
    · rw [if_pos h1] at hz
      by_cases h2 : vs.length = sumN fs
      · rw [if_pos h2] at hz
        by_cases h3 : fitRun fs vs = true
        · exact ⟨h1, h2, h3⟩
        · rw [if_neg h3] at hz; omega
      · rw [if_neg h2] at hz; omega
    · rw [if_neg h1] at hz; omega
  obtain ⟨hl0, hlen, hrun⟩ := hpr
  have hok := layC_zero hl0
  have HOK := hid hok.2
  have hl8 := hok.1
  have HPI := hid (pk_inv hok.2 hlen)
  have HPR := hid (pRun_le hok.2)
  have HRUN := hid (fun (k : Nat) (f : Fld) (h : fs[k]? = some f) => fitRun_at hrun h)
  have HG : Hid (packS fs vs = ⟨(packL fs vs).toArray⟩) := hid (by unfold packS; rw [hz, if_pos rfl])
  have HPS : Hid (pSize fs ≤ 256) := hid (by
    unfold layC at hl0
    rw [if_neg (by omega), if_pos hok.2] at hl0
    by_cases h : 256 < pSize fs
    · rw [if_pos h] at hl0; omega
    · omega)
  have HPS2 : Hid ((pkRun fs vs).1.length ≤ pSize fs) := hid (by
    have h1 := pk_inv hok.2 hlen fs.length (Nat.le_refl _)
    have h2 := pRun_le hok.2 fs.length (Nat.le_refl _)
    rw [List.take_length] at h1 h2
    rw [h1.2.1]
    exact le_upN _ _ h2.2.1)
  have HLN := hid hlen
  have HZ := hid hz
  clear hok hl0 hrun hz hlen
  have HF1 := hid (FP.mono (FP.low HF.out (Low.keep0 HK1.out)) HK1.out.size)
  go_wp2_with fail
  refine (plan_of fs p cap _ hl8 HF1.out HOK.out).mono ?_
  rintro r w3 ⟨v, rfl, hown, hk3⟩
  obtain ⟨va, vc, rfl⟩ : ∃ a c, v = .slice a fs.length c := by
    rcases hown.2 with ⟨h, h2⟩ | ⟨g, cp, cur, h, _⟩
    · exact ⟨none, 0, by rw [h, h2]⟩
    · exact ⟨_, _, h⟩
  obtain ⟨w4, hw4, hb4, hs4, hk4⟩ := box1 w3 #[.int .i64 (pSize fs : Int), .slice va fs.length vc] 45
  obtain ⟨w5, hw5, hb5, hs5, hk5⟩ := box1 w4 #[.pointer none, .slice none 0 0] 71
  have HK4 := hid ((HK1.out.trans hk3).trans hk4)
  have HOWN := hid (owns_keep (w' := w4) hown (fun k hk => hk4.block k (hown.lt k hk).2 id))
  have HB4 := hid hb4
  have HS34 : Hid (w3.heap.size < w4.heap.size) := hid (by omega)
  have HK5 := hid hk5
  have HB5 : Hid (Built w4.heap.size w4.heap.size (Lib.byteCells []) w5) := hid (.inl ⟨Nat.le_refl _, _, hb5, World.ownsRowF_nil _ _ _ _, by simp [Value.ownBlock]⟩)
  have HS45 : Hid (w4.heap.size ≤ w5.heap.size) := hid (by omega)
  have HE4 : Hid (w4.heap.size = w3.heap.size + 1) := hid hs4
  clear hown hk3 hk4 hk5 hb4 hb5 hs4 hs5
  go_upto_region 6 with fail
  rw [← hw4]
  (try rw [← hw5])
  clear hw4 hw5
  generalize hpb : w3.heap.size = pb at *
  rw [HE4.out] at HB5 HS45
  generalize hbb : pb + 1 = b at *
  have HSB := HE4
  have HBF : Hid (∀ wy, Wrote b w5 wy → Keep (fun _ => False) w4 wy) := hid (fun wy h => Wrote.keep HK5.out (by rw [HSB.out]; exact h))
  have HW0 : Hid (∀ wy, Wrote b w5 wy → Keep (fun _ => False) w wy) := hid (fun wy h => HK4.out.trans (HBF.out wy h))
  have HBS : Hid (∀ wy, Wrote b w5 wy → b ≤ wy.heap.size) := hid (fun wy h => Nat.le_trans HS45.out h.low.size)
  clear hpb hbb HK1 HF1
  go_wp2_with fail
  go_loopw [1, 10, 11, 13, 14, 15, 27] (fun vv _ _ _ _ _ i wr => ∃ (k m : Nat) (q' : Option Addr) (c' : Nat) (rs : List WI) (out : List UInt8), k ≤ fs.length ∧ i = iV k ∧ vv = .slice q' m c' ∧ m ≤ c' ∧ m = rs.length ∧ (out, rs) = pkRun (fs.take k) vs ∧ (∀ x ∈ rs, x.fit) ∧ XP w w.heap.size q' rs ∧ Built b b (Lib.byteCells out) wr ∧ Wrote b w5 wr) (fun _ _ _ _ _ _ i _ => fs.length + 1 - (RowKit.intOf i).toNat)
  case atStart => exact ⟨0, vs.length, q, qc, vs, [], by omega, rfl, rfl, hqc, rfl, rfl, HX.out, HV.out, HB5.out, Wrote.of_keep HS45.out (Keep.refl _ _)⟩
  case round =>
    obtain ⟨k, m, q', c', rs, out, hk, rfl, rfl, hmc, hmr, hpk, hfr, hxp, hbu, hwr⟩ := hrel
    have HMR := hid hmr; have HPK := hid hpk; have HFR := hid hfr; have HXP := hid hxp; have HBU := hid hbu; have HWR := hid hwr
    clear hmr hpk hfr hxp hbu hwr
    by_cases hlt : k < fs.length
    · obtain ⟨f, hfk⟩ : ∃ f, fs[k]? = some f := ⟨fs[k], by simp [hlt]⟩
      have hof := (HOK.out f (List.mem_of_getElem? hfk)).2
      obtain ⟨lb, off, rfl, hb, c0, c1, c2⟩ := FP.at (FP.low HF.out (Low.keep0 (HW0.out _ HWR.out))) hfk
      have hin : (0 : Int) ≤ (k : Int) ∧ (k : Int) < (fs.length : Int) := ⟨by omega, by omega⟩
      have hpi := HPI.out k hk
      rw [← HPK.out] at hpi
      obtain ⟨_, hi2, hi3⟩ := hpi
      simp only at hi2 hi3
      have hsd : sumN (fs.drop k) = f.count.toNat + sumN (fs.drop (k + 1)) := by rw [drop_next hfk]; rfl
      have hrun : ∀ x ∈ rs.take f.count.toNat, fitsB f.kind x = true := by
        have h := HRUN.out k f hfk
        rw [← HPK.out] at h
        exact h
      have hpl := (HPR.out k hk).1
      have hup := up_le (pRun (fs.take k)).1 (szN f.kind) (HOK.out f (List.mem_of_getElem? hfk)).1
      have hge := le_upN (pRun (fs.take k)).1 (szN f.kind) (HOK.out f (List.mem_of_getElem? hfk)).1
      have hs8 := sz_le f.kind
      have hat : ((pRun fs).2.2.map iV)[k]? = some (iV (upN (pRun (fs.take k)).1 (szN f.kind))) := by
        have h := (at_of fs fs.length (Nat.le_refl _)).2 k f hlt hfk
        rw [List.take_length] at h
        rw [List.getElem?_map, h]; rfl
      have HNX : Hid ((padL out (upN out.length (szN f.kind)) ++ (rs.take f.count.toNat).flatMap (putL f.kind), rs.drop f.count.toNat) = pkRun (fs.take (k + 1)) vs) := hid (by
        rw [pkRun_next hfk, ← HPK.out]; rfl)
      obtain ⟨ga, rfl⟩ := owns_some HOWN.out (by omega)
      obtain ⟨at_, hate⟩ : ∃ a, upN (pRun (fs.take k)).1 (szN f.kind) = a := ⟨_, rfl⟩
      rw [hate] at hat hup hge
      rw [hi2, hate] at HNX
      have hca : ∀ wy, Keep (fun _ => False) w4 wy → wy.cell? ⟨ga, k, none⟩ = some (.int .i64 (at_ : Int)) := fun wy hk => by
        have := owns_cell (k := k) (owns_keep (w' := wy) HOWN.out (fun j hj => hk.block j (HOWN.out.lt j hj).2 id)) hlt
        rw [this]; exact hat
      have HCA := hid hca
      have hol : out.length ≤ at_ := by omega
      have ha600 : at_ ≤ 700 := by omega
      have hcnt : f.count.toNat ≤ rs.length := by omega
      have HOL := hid hol
      have HRN := hid hrun
      have HS8 := hid hs8
      have HI2 := hid hi2
      clear hfk hi2 hi3 hsd hrun hpl hup hge hs8 hat hate hca hol HPK
      obtain ⟨nm, kd, ct⟩ := f
      obtain ⟨cn, rfl⟩ := Int.eq_ofNat_of_zero_le (a := ct) (by have := hof.1; simp only at this; omega)
      simp only [Int.toNat_natCast] at c0 c1 c2 hof hcnt
      have HNX2 : Hid ((padL out at_ ++ (rs.take cn).flatMap (putL kd), rs.drop cn) = pkRun (fs.take (k + 1)) vs) := hid HNX.out
      have HRN2 : Hid (∀ x ∈ rs.take cn, fitsB kd x = true) := hid HRN.out
      have HS82 : Hid (szN kd ≤ 8) := hid HS8.out
      clear HNX HRN HS8
      have hcn : 1 ≤ cn ∧ cn ≤ 8 := ⟨by omega, by omega⟩
      have hcm : cn ≤ m := by have := HMR.out; omega
      clear hcnt hof
      obtain ⟨x0, hx0⟩ : ∃ x, rs[0]? = some x := ⟨rs[0]'(by have := HMR.out; omega), by simp [show 0 < rs.length by have := HMR.out; omega]⟩
      obtain ⟨qb, qo, rfl, hqb, _⟩ := XP.at HXP.out hx0
      have hin0 : (0 : Int) ≤ (cn : Int) ∧ (cn : Int) ≤ (c' : Int) := ⟨by omega, by omega⟩
      have hin1 : (0 : Int) ≤ (cn : Int) ∧ (cn : Int) ≤ (m : Int) := ⟨by omega, by omega⟩
      have hka := (Keep.refl (fun _ => False) wr).alloc (.cells #[.string nm, .int .i64 kd, .int .i64 (cn : Int)] 41)
      have hfb := heap_alloc_new wr (.cells #[.string nm, .int .i64 kd, .int .i64 (cn : Int)] 41)
      have HFB := hid hfb
      have HWA := hid (HWR.out.trans (Wrote.of_keep (HBS.out _ HWR.out) hka))
      have HBA := hid (built_keep HBU.out hka)
      have HFBB : Hid (wr.heap.size ≠ b) := hid (by
        have h : b < wr.heap.size := by
          rcases HBU.out with h | h
          · exact h.lt
          · exact h.lt
        omega)
      clear hx0 hfb hka
      go_upto_region 10 with fail
      generalize wr.alloc (.cells #[.string nm, .int .i64 kd, .int .i64 (cn : Int)] 41) = wa at *
      generalize wr.heap.size = fb at *
      have hck := HCA.out _ (HBF.out _ HWA.out)
      have hpc : wa.cell? ⟨pb, 1, none⟩ = some (.slice (some ⟨ga, 0, none⟩) fs.length vc) := cell_of ((HBF.out _ HWA.out).get HB4.out id) (by rfl)
      clear c0 c1 c2
      go_wp2_with fail
      refine (pad_of b out at_ _ HBA.out HOL.out (by omega) (HBS.out _ HWA.out)).mono ?_
      rintro r w6 ⟨rfl, hb6, hw6⟩
      have HW6 := hid (HWA.out.trans hw6); have HB6 : Hid (Built b b _ w6) := hid (.inr hb6)
      have HFX : Hid (∀ wy, Wrote b w6 wy → wy.cell? ⟨fb, 1, none⟩ = some (.int .i64 kd) ∧ wy.cell? ⟨fb, 2, none⟩ = some (.int .i64 (cn : Int))) := hid (fun wy h => by
        have h2 := (hw6.trans h).others fb _ HFB.out (by simpa using HFBB.out) (by simp)
        exact ⟨cell_of h2 (by rfl), cell_of h2 (by rfl)⟩)
      have HPD := hid (padL_len out at_ HOL.out)
      clear hb6 hw6 hck hpc
      generalize padL out at_ = pd at *
      have d2 := (HFX.out _ (Wrote.of_keep (HBS.out _ HW6.out) (Keep.refl _ _))).2
      go_wp2_with fail
      clear d2
      go_loopw [13, 14, 15, 44] (fun _ _ _ i wy => ∃ j : Nat, j ≤ cn ∧ i = iV j ∧ Built b b (Lib.byteCells (pd ++ (rs.take j).flatMap (putL kd))) wy ∧ Wrote b w6 wy) (fun _ _ _ i _ => cn + 1 - (RowKit.intOf i).toNat)
      case atStart => exact ⟨0, by omega, rfl, by rw [List.take_zero, List.flatMap_nil, List.append_nil]; exact HB6.out, Wrote.of_keep (HBS.out _ HW6.out) (Keep.refl _ _)⟩
      case round =>
        obtain ⟨j, hj, rfl, hbj, hwj⟩ := hrel
        have HBJ := hid hbj; have HWJ := hid hwj
        have HWJ5 := hid (HW6.out.trans hwj)
        clear hbj hwj
        by_cases hjt : j < cn
        · obtain ⟨x, hx⟩ : ∃ x, rs[j]? = some x := ⟨rs[j]'(by have := HMR.out; omega), by simp [show j < rs.length by have := HMR.out; omega]⟩
          have hxf := HFR.out x (List.mem_of_getElem? hx)
          obtain ⟨b2, o2, e, hb2, a0, a1, a2⟩ := XP.at (XP.low HXP.out (Low.keep0 (HW0.out _ HWJ5.out))) hx
          injection e with e
          injection e with e1 e2
          subst e1; subst e2
          have hin2 : (0 : Int) ≤ (j : Int) ∧ (j : Int) < (cn : Int) := ⟨by omega, by omega⟩
          have hft : fitsB kd x = true := HRN2.out x (by rw [List.mem_take_iff_getElem]; obtain ⟨h1, h2⟩ := List.getElem?_eq_some_iff.1 hx; exact ⟨j, by omega, h2⟩)
          have HPS : Hid (putS kd x = ⟨(putL kd x).toArray⟩) := hid (by unfold putS; rw [if_pos hft])
          have HTN : Hid ((rs.take (j + 1)).flatMap (putL kd) = (rs.take j).flatMap (putL kd) ++ putL kd x) := hid (by rw [take_next hx, List.flatMap_append]; simp)
          have HLE : Hid ((pd ++ (rs.take j).flatMap (putL kd)).length ≤ 1000) := hid (by
            rw [List.length_append, HPD.out, flat_len _ (szN kd) _ (fun x _ => putL_len _ x), List.length_take]
            have h1 : min j rs.length * szN kd ≤ 8 * 8 := Nat.mul_le_mul (by omega) HS82.out
            omega)
          have HLX : Hid ((putL kd x).length ≤ 8) := hid (by rw [putL_len]; exact HS82.out)
          have hk4 := (Keep.refl (fun _ => False) wr).alloc (.cells (WC x) 57)
          have HWX := hid (HWJ.out.trans (Wrote.of_keep (HBS.out _ HWJ5.out) hk4))
          have HBX := hid (built_keep HBJ.out hk4)
          have hxb := heap_alloc_new wr (.cells (WC x) 57)
          have HXB := hid hxb
          clear hx hk4 hxb hft
          go_upto_region 14 with fail
          generalize wr.alloc (.cells (WC x) 57) = wx at *
          generalize wr.heap.size = xb at *
          have e0 : wx.cell? ⟨xb, 0, none⟩ = some (.bool x.neg) := cell_of HXB.out (by rfl)
          have e1 : wx.cell? ⟨xb, 1, none⟩ = some (.int .u64 (x.hi : Int)) := cell_of HXB.out (by rfl)
          have e2 : wx.cell? ⟨xb, 2, none⟩ = some (.int .u64 (x.lo : Int)) := cell_of HXB.out (by rfl)
          have e3 := (HFX.out _ HWX.out).1
          go_wp2_with fail
          refine (f_put kd x hxf _).mono ?_
          rintro r w8 ⟨rfl, hk8⟩
          rw [HPS.out]
          have HW8 := hid (HWX.out.trans (Wrote.of_keep (HBS.out _ (HW6.out.trans HWX.out)) hk8))
          have HB8 := hid (built_keep HBX.out hk8)
          clear hk8 e0 e1 e2 e3 a0 a1 a2 hxf
          go_wp2_with fail
          refine (bld_write b b _ _ _ HB8.out (by rw [cells_len]; have := HLE.out; have := HLX.out; show _ + (putL kd x).toArray.size ≤ _; rw [List.size_toArray]; omega) (HBS.out _ (HW6.out.trans HW8.out))).mono ?_
          rintro r w9 ⟨rfl, hb9, hb9b, ho9⟩
          have HW9 : Hid (Wrote b w6 w9) := hid (HW8.out.trans ⟨hb9b, ho9⟩)
          have HB9 : Hid (Built b b (Lib.byteCells (pd ++ (rs.take (j + 1)).flatMap (putL kd))) w9) := hid (.inr (by rw [HTN.out, ← List.append_assoc, cells_app]; exact hb9))
          clear hb9 hb9b ho9
          go_wp2
          go_roundw
          case rel => exact ⟨j + 1, by omega, by go_num, HB9.out, HW9.out⟩
          case measure => simp [RowKit.intOf]; omega
        · obtain rfl : j = cn := by omega
          have hc5 := (HFX.out _ HWJ.out).2
          have hin3 : (0 : Int) ≤ (j : Int) ∧ (j : Int) ≤ (m : Int) := ⟨by omega, by omega⟩
          go_wp2
          go_roundw
          case rel =>
            have hmr := HMR.out
            by_cases hcj : c' = j
            · rw [if_pos hcj]
              have hnil : rs.drop j = [] := List.drop_of_length_le (by omega)
              exact ⟨k + 1, m - j, _, c' - j, rs.drop j, _, by omega, by go_num, rfl, by omega, by rw [List.length_drop]; omega, HNX2.out, fun x hx => HFR.out x (List.mem_of_mem_drop hx), .inl hnil, HBJ.out, HWJ5.out⟩
            · rw [if_neg hcj]
              exact ⟨k + 1, m - j, _, c' - j, rs.drop j, _, by omega, by go_num, rfl, by omega, by rw [List.length_drop]; omega, HNX2.out, fun x hx => HFR.out x (List.mem_of_mem_drop hx), HXP.out.drop j, HBJ.out, HWJ5.out⟩
          case measure => simp [RowKit.intOf]; omega
    · obtain rfl : k = fs.length := by omega
      have HPK2 : Hid (out = (pkRun fs vs).1) := hid (by have := HPK.out; rw [List.take_length] at this; rw [← this])
      have hps := HPS.out
      have HLE : Hid (out.length ≤ pSize fs) := hid (by rw [HPK2.out]; exact HPS2.out)
      have HGL : Hid (packL fs vs = padL out (pSize fs)) := hid (by unfold packL; rw [HPK2.out])
      have hpc : wr.cell? ⟨pb, 0, none⟩ = some (.int .i64 (pSize fs : Int)) := cell_of ((HBF.out _ HWR.out).get HB4.out id) (by rfl)
      clear HPK HPK2 HPS2
      generalize pSize fs = sz at *
      go_wp2_with fail
      refine (pad_of b out sz _ HBU.out HLE.out (by omega) (HBS.out _ HWR.out)).mono ?_
      rintro r w6 ⟨rfl, hb6, hw6⟩
      have HW6 := hid (HWR.out.trans hw6); have HB6 : Hid (Built b b _ w6) := hid (.inr hb6)
      clear hb6 hw6 hpc
      go_wp2_with fail
      refine (Try.Builder_String_any_k b b _ _ HB6.out (HBS.out _ HW6.out)).mono ?_
      rintro r w7 ⟨rfl, _, hb7, ho7⟩
      have HW7 := hid (HW6.out.trans ⟨hb7, ho7⟩)
      clear hb7 ho7
      go_wp2
      (try simp only [Exit.inBlock, Exit.then])
      refine bodyPost_ret (results_tt2 rfl _) rfl ?_
      rw [HG.out, HZ.out, HGL.out]
      exact ⟨rfl, HW0.out _ HW7.out⟩
end Go.Proofs.Ytkgkcnmnfhehfaa
