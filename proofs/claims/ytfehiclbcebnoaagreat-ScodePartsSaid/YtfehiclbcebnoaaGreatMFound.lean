/- What is proved: what Find of a schema answers, as a function of the id. -/
import Derived.Test.YtfehiclbcebnoaaGreatMScDec2
import Derived.Test.YtfehiclbcebnoaaGreatMBuilder
import Derived.Test.YtfehiclbcebnoaaGreatMLay2
import Derived.Test.YtfehiclbcebnoaaGreatMHeap
namespace Go.Proofs.YtfehiclbcebnoaaGreat
open Go.RowKit Go.Proofs.Heap Go.Proofs.Sch

def nilC : Cmp := ⟨0, ⟨#[]⟩, []⟩
/-- The component of an id, or none. -/
def foundC (cs : List Cmp) (id : Int) : Cmp := if idxI (fun c : Cmp => decide (c.id = id)) cs < 0 then nilC else (cs[(idxI (fun c : Cmp => decide (c.id = id)) cs).toNat]?).getD nilC
theorem foundC_small {cs : List Cmp} (h : Small cs) (id : Int) : (foundC cs id).fs.length ≤ 4398046511104 := by
  unfold foundC
  split
  · simp [nilC]
  · cases e : cs[(idxI (fun c : Cmp => decide (c.id = id)) cs).toNat]? with
    | none => simp [nilC]
    | some c => exact h.2 c (List.mem_of_getElem? e)
theorem find_co (id : Int) (v : Int) (cs : List Cmp) (p : Option Addr) (cap : Nat) (w : World) (hl : Small cs) (hf : CP w w.heap.size p cs) :
    Calls Tryz.prog 18 #[.agg #[.int .i64 v, .slice p cs.length cap], .int .i64 id] w fun r w' => ∃ (q : Option Addr) (z : Nat), r = .returned (.tuple #[.agg #[.int .i64 (foundC cs id).id, .string (foundC cs id).name, .slice q (foundC cs id).fs.length z], .bool (cs.any (fun c => decide (c.id = id)))]) ∧
      w'.ownsRow w.heap.size 45 3 (.slice q (foundC cs id).fs.length z) (foundC cs id).fs.length ((foundC cs id).fs.flatMap fcl) ∧ Keep (fun _ => False) w w' := by
  refine (sch_find id v cs p cap w hl hf).mono ?_
  rintro r w' ⟨h | h, hk⟩
  · obtain ⟨k, c, q, z, hi, hc, _, rfl, _, h5⟩ := h
    have e : foundC cs id = c := by
      unfold foundC
      rw [hi, if_neg (by omega), Int.toNat_natCast, hc]; rfl
    rw [e]
    exact ⟨q, z, by rw [idx_any _ _ ⟨k, hi⟩], h5, hk⟩
  · obtain ⟨hi, rfl⟩ := h
    have e : foundC cs id = nilC := by
      unfold foundC
      rw [hi]; rfl
    rw [e]
    exact ⟨none, 0, by rw [idx_any_no _ _ hi]; rfl, World.ownsRow_nil _ _ _ _, hk⟩
theorem find_c (id : Int) (v : Int) (cs : List Cmp) (p : Option Addr) (cap : Nat) (w : World) (hl : Small cs) (hf : CP w w.heap.size p cs) :
    Calls Tryz.prog 18 #[.agg #[.int .i64 v, .slice p cs.length cap], .int .i64 id] w fun r w' => ∃ (q : Option Addr) (z : Nat), r = .returned (.tuple #[.agg #[.int .i64 (foundC cs id).id, .string (foundC cs id).name, .slice q (foundC cs id).fs.length z], .bool (cs.any (fun c => decide (c.id = id)))]) ∧ FP w' w'.heap.size q (foundC cs id).fs ∧ Keep (fun _ => False) w w' :=
  (find_co id v cs p cap w hl hf).mono fun _ _ ⟨q, z, h1, h2, h3⟩ => ⟨q, z, h1, fp_own rfl h2, h3⟩
end Go.Proofs.YtfehiclbcebnoaaGreat

namespace Go.Proofs.YtfehiclbcebnoaaGreat
open Go.RowKit Go.Proofs.Heap Go.Proofs.Sch Go.Proofs.Wide

theorem built_keep {B b : Nat} {bs : List Value} {w w' : World} (h : Built B b bs w) (hk : Keep (fun _ => False) w w') : Built B b bs w' :=
  h.elim (fun h => .inl (Built.keep0 h hk)) (fun h => .inr (Built.keep0 h hk))

set_option maxRecDepth 20000 in
set_option maxHeartbeats 8000000 in
theorem lay_packU (fs : List Fld) (p : Option Addr) (cap : Nat) (vs : List WI) (q : Option Addr) (qc : Nat) (w : World) (hcap : fs.length ≤ cap) (hqc : vs.length ≤ qc) (hfit : ∀ x ∈ vs, x.fit) (hf : FP w w.heap.size p fs) (hv : XP w w.heap.size q vs) :
    Calls Tryz.prog 19 #[.slice p fs.length cap, .slice q vs.length qc] w fun r w' => r = .returned (.tuple #[.string (packS fs vs), iV (fitC fs vs)]) ∧ Keep (fun _ => False) w w' := by
  have HF := hid hf; have HV := hid hv; have HX := hid hfit
  have HFT := hid (fun w (hf : FP w w.heap.size p fs) (hv : XP w w.heap.size q vs) => lay_fitU fs p cap vs q qc w hcap hqc hfit hf hv)
  clear hf hv hfit
  go_enter Tryz.func19, Tryz.ntmps19
  go_wp2_with fail
  refine (HFT.out _ HF.out HV.out).mono ?_
  rintro r w1 ⟨rfl, hk1⟩
  have HK1 := hid hk1
  clear hk1 HFT
  generalize hz : fitC fs vs = z at *
  by_cases h0 : z = 0
  rotate_left
  · have g3 : ((z : Int) != 0) = true := by rw [bne, beq_eq_false_iff_ne.2 (show (z : Int) ≠ 0 by omega)]; rfl
    have g4 : (z != 0) = true := by rw [bne, beq_eq_false_iff_ne.2 h0]; rfl
    have G : Hid (packS fs vs = ⟨#[]⟩) := hid (by unfold packS; rw [hz, if_neg h0])
    have GZ := hid hz
    clear h0 hz
    go_wp2
    (try simp only [Exit.inBlock, Exit.then])
    refine bodyPost_ret (results_tt2 rfl _) rfl ?_
    rw [G.out, GZ.out]
    exact ⟨rfl, HK1.out⟩
  subst h0
  have hpr : layC fs = 0 ∧ vs.length = sumN fs ∧ fitRun fs vs = true := by
    unfold fitC at hz
    by_cases h1 : layC fs = 0
    · rw [if_pos h1] at hz
      by_cases h2 : vs.length = sumN fs
      · rw [if_pos h2] at hz
        by_cases h3 : fitRun fs vs = true
        · exact ⟨h1, h2, h3⟩
        · rw [if_neg h3] at hz; omega
      · rw [if_neg h2] at hz; omega
    · rw [if_neg h1] at hz; omega
  obtain ⟨hl0, hlen, hrun⟩ := hpr
  have hok := layC_zero hl0
  have HOK := hid hok.2
  have hl8 := hok.1
  have HPI := hid (pk_inv hok.2 hlen)
  have HPR := hid (pRun_le hok.2)
  have HRUN := hid (fun (k : Nat) (f : Fld) (h : fs[k]? = some f) => fitRun_at hrun h)
  have HG : Hid (packS fs vs = ⟨(packL fs vs).toArray⟩) := hid (by unfold packS; rw [hz, if_pos rfl])
  have HPS : Hid (pSize fs ≤ 256) := hid (by
    unfold layC at hl0
    rw [if_neg (by omega), if_pos hok.2] at hl0
    by_cases h : 256 < pSize fs
    · rw [if_pos h] at hl0; omega
    · omega)
  have HPS2 : Hid ((pkRun fs vs).1.length ≤ pSize fs) := hid (by
    have h1 := pk_inv hok.2 hlen fs.length (Nat.le_refl _)
    have h2 := pRun_le hok.2 fs.length (Nat.le_refl _)
    rw [List.take_length] at h1 h2
    rw [h1.2.1]
    exact le_upN _ _ h2.2.1)
  have HLN := hid hlen
  have HZ := hid hz
  clear hok hl0 hrun hz hlen
  have HF1 := hid (FP.mono (FP.low HF.out (Low.keep0 HK1.out)) HK1.out.size)
  go_wp2_with fail
  refine (plan_of fs p cap _ hl8 HF1.out HOK.out).mono ?_
  rintro r w3 ⟨v, rfl, hown, hk3⟩
  obtain ⟨va, vc, rfl⟩ : ∃ a c, v = .slice a fs.length c := by
    rcases hown.2 with ⟨h, h2⟩ | ⟨g, cp, cur, h, _⟩
    · exact ⟨none, 0, by rw [h, h2]⟩
    · exact ⟨_, _, h⟩
  obtain ⟨w4, hw4, hb4, hs4, hk4⟩ := box1 w3 #[.int .i64 (pSize fs : Int), .slice va fs.length vc] 95
  obtain ⟨w5, hw5, hb5, hs5, hk5⟩ := box1 w4 #[.pointer none, .slice none 0 0] 99
  have HK4 := hid ((HK1.out.trans hk3).trans hk4)
  have HOWN := hid (owns_keep (w' := w4) hown (fun k hk => hk4.block k (hown.lt k hk).2 id))
  have HB4 := hid hb4
  have HS34 : Hid (w3.heap.size < w4.heap.size) := hid (by omega)
  have HK5 := hid hk5
  have HB5 : Hid (Built w4.heap.size w4.heap.size (Lib.byteCells []) w5) := hid (.inl ⟨Nat.le_refl _, _, hb5, World.ownsRowF_nil _ _ _ _, by simp [Value.ownBlock]⟩)
  have HS45 : Hid (w4.heap.size ≤ w5.heap.size) := hid (by omega)
  have HE4 : Hid (w4.heap.size = w3.heap.size + 1) := hid hs4
  clear hown hk3 hk4 hk5 hb4 hb5 hs4 hs5
  go_upto_region 6 with fail
  rw [← hw4]
  (try rw [← hw5])
  clear hw4 hw5
  generalize hpb : w3.heap.size = pb at *
  rw [HE4.out] at HB5 HS45
  generalize hbb : pb + 1 = b at *
  have HSB := HE4
  have HBF : Hid (∀ wy, Wrote b w5 wy → Keep (fun _ => False) w4 wy) := hid (fun wy h => Wrote.keep HK5.out (by rw [HSB.out]; exact h))
  have HW0 : Hid (∀ wy, Wrote b w5 wy → Keep (fun _ => False) w wy) := hid (fun wy h => HK4.out.trans (HBF.out wy h))
  have HBS : Hid (∀ wy, Wrote b w5 wy → b ≤ wy.heap.size) := hid (fun wy h => Nat.le_trans HS45.out h.low.size)
  clear hpb hbb HK1 HF1
  go_wp2_with fail
  go_loopw [1, 10, 11, 13, 14, 15, 27] (fun vv _ _ _ _ _ i wr => ∃ (k m : Nat) (q' : Option Addr) (c' : Nat) (rs : List WI) (out : List UInt8), k ≤ fs.length ∧ i = iV k ∧ vv = .slice q' m c' ∧ m ≤ c' ∧ m = rs.length ∧ (out, rs) = pkRun (fs.take k) vs ∧ (∀ x ∈ rs, x.fit) ∧ XP w w.heap.size q' rs ∧ Built b b (Lib.byteCells out) wr ∧ Wrote b w5 wr) (fun _ _ _ _ _ _ i _ => fs.length + 1 - (RowKit.intOf i).toNat)
  case atStart => exact ⟨0, vs.length, q, qc, vs, [], by omega, rfl, rfl, hqc, rfl, rfl, HX.out, HV.out, HB5.out, Wrote.of_keep HS45.out (Keep.refl _ _)⟩
  case round =>
    obtain ⟨k, m, q', c', rs, out, hk, rfl, rfl, hmc, hmr, hpk, hfr, hxp, hbu, hwr⟩ := hrel
    have HMR := hid hmr; have HPK := hid hpk; have HFR := hid hfr; have HXP := hid hxp; have HBU := hid hbu; have HWR := hid hwr
    clear hmr hpk hfr hxp hbu hwr
    by_cases hlt : k < fs.length
    · obtain ⟨f, hfk⟩ : ∃ f, fs[k]? = some f := ⟨fs[k], by simp [hlt]⟩
      have hof := (HOK.out f (List.mem_of_getElem? hfk)).2
      obtain ⟨lb, off, rfl, hb, c0, c1, c2⟩ := FP.at (FP.low HF.out (Low.keep0 (HW0.out _ HWR.out))) hfk
      have hin : (0 : Int) ≤ (k : Int) ∧ (k : Int) < (fs.length : Int) := ⟨by omega, by omega⟩
      have hpi := HPI.out k hk
      rw [← HPK.out] at hpi
      obtain ⟨_, hi2, hi3⟩ := hpi
      simp only at hi2 hi3
      have hsd : sumN (fs.drop k) = f.count.toNat + sumN (fs.drop (k + 1)) := by rw [drop_next hfk]; rfl
      have hrun : ∀ x ∈ rs.take f.count.toNat, fitsB f.kind x = true := by
        have h := HRUN.out k f hfk
        rw [← HPK.out] at h
        exact h
      have hpl := (HPR.out k hk).1
      have hup := up_le (pRun (fs.take k)).1 (szN f.kind) (HOK.out f (List.mem_of_getElem? hfk)).1
      have hge := le_upN (pRun (fs.take k)).1 (szN f.kind) (HOK.out f (List.mem_of_getElem? hfk)).1
      have hs8 := sz_le f.kind
      have hat : ((pRun fs).2.2.map iV)[k]? = some (iV (upN (pRun (fs.take k)).1 (szN f.kind))) := by
        have h := (at_of fs fs.length (Nat.le_refl _)).2 k f hlt hfk
        rw [List.take_length] at h
        rw [List.getElem?_map, h]; rfl
      have HNX : Hid ((padL out (upN out.length (szN f.kind)) ++ (rs.take f.count.toNat).flatMap (putL f.kind), rs.drop f.count.toNat) = pkRun (fs.take (k + 1)) vs) := hid (by
        rw [pkRun_next hfk, ← HPK.out]; rfl)
      obtain ⟨ga, rfl⟩ := owns_some HOWN.out (by omega)
      obtain ⟨at_, hate⟩ : ∃ a, upN (pRun (fs.take k)).1 (szN f.kind) = a := ⟨_, rfl⟩
      rw [hate] at hat hup hge
      rw [hi2, hate] at HNX
      have hca : ∀ wy, Keep (fun _ => False) w4 wy → wy.cell? ⟨ga, k, none⟩ = some (.int .i64 (at_ : Int)) := fun wy hk => by
        have := owns_cell (k := k) (owns_keep (w' := wy) HOWN.out (fun j hj => hk.block j (HOWN.out.lt j hj).2 id)) hlt
        rw [this]; exact hat
      have HCA := hid hca
      have hol : out.length ≤ at_ := by omega
      have ha600 : at_ ≤ 700 := by omega
      have hcnt : f.count.toNat ≤ rs.length := by omega
      have HOL := hid hol
      have HRN := hid hrun
      have HS8 := hid hs8
      have HI2 := hid hi2
      clear hfk hi2 hi3 hsd hrun hpl hup hge hs8 hat hate hca hol HPK
      obtain ⟨nm, kd, ct⟩ := f
      obtain ⟨cn, rfl⟩ := Int.eq_ofNat_of_zero_le (a := ct) (by have := hof.1; simp only at this; omega)
      simp only [Int.toNat_natCast] at c0 c1 c2 hof hcnt
      have HNX2 : Hid ((padL out at_ ++ (rs.take cn).flatMap (putL kd), rs.drop cn) = pkRun (fs.take (k + 1)) vs) := hid HNX.out
      have HRN2 : Hid (∀ x ∈ rs.take cn, fitsB kd x = true) := hid HRN.out
      have HS82 : Hid (szN kd ≤ 8) := hid HS8.out
      clear HNX HRN HS8
      have hcn : 1 ≤ cn ∧ cn ≤ 8 := ⟨by omega, by omega⟩
      have hcm : cn ≤ m := by have := HMR.out; omega
      clear hcnt hof
      obtain ⟨x0, hx0⟩ : ∃ x, rs[0]? = some x := ⟨rs[0]'(by have := HMR.out; omega), by simp [show 0 < rs.length by have := HMR.out; omega]⟩
      obtain ⟨qb, qo, rfl, hqb, _⟩ := XP.at HXP.out hx0
      have hin0 : (0 : Int) ≤ (cn : Int) ∧ (cn : Int) ≤ (c' : Int) := ⟨by omega, by omega⟩
      have hin1 : (0 : Int) ≤ (cn : Int) ∧ (cn : Int) ≤ (m : Int) := ⟨by omega, by omega⟩
      have hka := (Keep.refl (fun _ => False) wr).alloc (.cells #[.string nm, .int .i64 kd, .int .i64 (cn : Int)] 45)
      have hfb := heap_alloc_new wr (.cells #[.string nm, .int .i64 kd, .int .i64 (cn : Int)] 45)
      have HFB := hid hfb
      have HWA := hid (HWR.out.trans (Wrote.of_keep (HBS.out _ HWR.out) hka))
      have HBA := hid (built_keep HBU.out hka)
      have HFBB : Hid (wr.heap.size ≠ b) := hid (by
        have h : b < wr.heap.size := by
          rcases HBU.out with h | h
          · exact h.lt
          · exact h.lt
        omega)
      clear hx0 hfb hka
      go_upto_region 10 with fail
      generalize wr.alloc (.cells #[.string nm, .int .i64 kd, .int .i64 (cn : Int)] 45) = wa at *
      generalize wr.heap.size = fb at *
      have hck := HCA.out _ (HBF.out _ HWA.out)
      have hpc : wa.cell? ⟨pb, 1, none⟩ = some (.slice (some ⟨ga, 0, none⟩) fs.length vc) := cell_of ((HBF.out _ HWA.out).get HB4.out id) (by rfl)
      clear c0 c1 c2
      go_wp2_with fail
      refine (pad_of b out at_ _ HBA.out HOL.out (by omega) (HBS.out _ HWA.out)).mono ?_
      rintro r w6 ⟨rfl, hb6, hw6⟩
      have HW6 := hid (HWA.out.trans hw6); have HB6 : Hid (Built b b _ w6) := hid (.inr hb6)
      have HFX : Hid (∀ wy, Wrote b w6 wy → wy.cell? ⟨fb, 1, none⟩ = some (.int .i64 kd) ∧ wy.cell? ⟨fb, 2, none⟩ = some (.int .i64 (cn : Int))) := hid (fun wy h => by
        have h2 := (hw6.trans h).others fb _ HFB.out (by simpa using HFBB.out) (by simp)
        exact ⟨cell_of h2 (by rfl), cell_of h2 (by rfl)⟩)
      have HPD := hid (padL_len out at_ HOL.out)
      clear hb6 hw6 hck hpc
      generalize padL out at_ = pd at *
      have d2 := (HFX.out _ (Wrote.of_keep (HBS.out _ HW6.out) (Keep.refl _ _))).2
      go_wp2_with fail
      clear d2
      go_loopw [13, 14, 15, 44] (fun _ _ _ i wy => ∃ j : Nat, j ≤ cn ∧ i = iV j ∧ Built b b (Lib.byteCells (pd ++ (rs.take j).flatMap (putL kd))) wy ∧ Wrote b w6 wy) (fun _ _ _ i _ => cn + 1 - (RowKit.intOf i).toNat)
      case atStart => exact ⟨0, by omega, rfl, by rw [List.take_zero, List.flatMap_nil, List.append_nil]; exact HB6.out, Wrote.of_keep (HBS.out _ HW6.out) (Keep.refl _ _)⟩
      case round =>
        obtain ⟨j, hj, rfl, hbj, hwj⟩ := hrel
        have HBJ := hid hbj; have HWJ := hid hwj
        have HWJ5 := hid (HW6.out.trans hwj)
        clear hbj hwj
        by_cases hjt : j < cn
        · obtain ⟨x, hx⟩ : ∃ x, rs[j]? = some x := ⟨rs[j]'(by have := HMR.out; omega), by simp [show j < rs.length by have := HMR.out; omega]⟩
          have hxf := HFR.out x (List.mem_of_getElem? hx)
          obtain ⟨b2, o2, e, hb2, a0, a1, a2⟩ := XP.at (XP.low HXP.out (Low.keep0 (HW0.out _ HWJ5.out))) hx
          injection e with e
          injection e with e1 e2
          subst e1; subst e2
          have hin2 : (0 : Int) ≤ (j : Int) ∧ (j : Int) < (cn : Int) := ⟨by omega, by omega⟩
          have hft : fitsB kd x = true := HRN2.out x (by rw [List.mem_take_iff_getElem]; obtain ⟨h1, h2⟩ := List.getElem?_eq_some_iff.1 hx; exact ⟨j, by omega, h2⟩)
          have HPS : Hid (putS kd x = ⟨(putL kd x).toArray⟩) := hid (by unfold putS; rw [if_pos hft])
          have HTN : Hid ((rs.take (j + 1)).flatMap (putL kd) = (rs.take j).flatMap (putL kd) ++ putL kd x) := hid (by rw [take_next hx, List.flatMap_append]; simp)
          have HLE : Hid ((pd ++ (rs.take j).flatMap (putL kd)).length ≤ 1000) := hid (by
            rw [List.length_append, HPD.out, flat_len _ (szN kd) _ (fun x _ => putL_len _ x), List.length_take]
            have h1 : min j rs.length * szN kd ≤ 8 * 8 := Nat.mul_le_mul (by omega) HS82.out
            omega)
          have HLX : Hid ((putL kd x).length ≤ 8) := hid (by rw [putL_len]; exact HS82.out)
          have hk4 := (Keep.refl (fun _ => False) wr).alloc (.cells (WC x) 54)
          have HWX := hid (HWJ.out.trans (Wrote.of_keep (HBS.out _ HWJ5.out) hk4))
          have HBX := hid (built_keep HBJ.out hk4)
          have hxb := heap_alloc_new wr (.cells (WC x) 54)
          have HXB := hid hxb
          clear hx hk4 hxb hft
          go_upto_region 14 with fail
          generalize wr.alloc (.cells (WC x) 54) = wx at *
          generalize wr.heap.size = xb at *
          have e0 : wx.cell? ⟨xb, 0, none⟩ = some (.bool x.neg) := cell_of HXB.out (by rfl)
          have e1 : wx.cell? ⟨xb, 1, none⟩ = some (.int .u64 (x.hi : Int)) := cell_of HXB.out (by rfl)
          have e2 : wx.cell? ⟨xb, 2, none⟩ = some (.int .u64 (x.lo : Int)) := cell_of HXB.out (by rfl)
          have e3 := (HFX.out _ HWX.out).1
          go_wp2_with fail
          refine (f_put kd x hxf _).mono ?_
          rintro r w8 ⟨rfl, hk8⟩
          rw [HPS.out]
          have HW8 := hid (HWX.out.trans (Wrote.of_keep (HBS.out _ (HW6.out.trans HWX.out)) hk8))
          have HB8 := hid (built_keep HBX.out hk8)
          clear hk8 e0 e1 e2 e3 a0 a1 a2 hxf
          go_wp2_with fail
          refine (bld_write b b _ _ _ HB8.out (by rw [cells_len]; have := HLE.out; have := HLX.out; show _ + (putL kd x).toArray.size ≤ _; rw [List.size_toArray]; omega) (HBS.out _ (HW6.out.trans HW8.out))).mono ?_
          rintro r w9 ⟨rfl, hb9, hb9b, ho9⟩
          have HW9 : Hid (Wrote b w6 w9) := hid (HW8.out.trans ⟨hb9b, ho9⟩)
          have HB9 : Hid (Built b b (Lib.byteCells (pd ++ (rs.take (j + 1)).flatMap (putL kd))) w9) := hid (.inr (by rw [HTN.out, ← List.append_assoc, cells_app]; exact hb9))
          clear hb9 hb9b ho9
          go_wp2
          go_roundw
          case rel => exact ⟨j + 1, by omega, by go_num, HB9.out, HW9.out⟩
          case measure => simp [RowKit.intOf]; omega
        · obtain rfl : j = cn := by omega
          have hc5 := (HFX.out _ HWJ.out).2
          have hin3 : (0 : Int) ≤ (j : Int) ∧ (j : Int) ≤ (m : Int) := ⟨by omega, by omega⟩
          go_wp2
          go_roundw
          case rel =>
            have hmr := HMR.out
            by_cases hcj : c' = j
            · rw [if_pos hcj]
              have hnil : rs.drop j = [] := List.drop_of_length_le (by omega)
              exact ⟨k + 1, m - j, _, c' - j, rs.drop j, _, by omega, by go_num, rfl, by omega, by rw [List.length_drop]; omega, HNX2.out, fun x hx => HFR.out x (List.mem_of_mem_drop hx), .inl hnil, HBJ.out, HWJ5.out⟩
            · rw [if_neg hcj]
              exact ⟨k + 1, m - j, _, c' - j, rs.drop j, _, by omega, by go_num, rfl, by omega, by rw [List.length_drop]; omega, HNX2.out, fun x hx => HFR.out x (List.mem_of_mem_drop hx), HXP.out.drop j, HBJ.out, HWJ5.out⟩
          case measure => simp [RowKit.intOf]; omega
    · obtain rfl : k = fs.length := by omega
      have HPK2 : Hid (out = (pkRun fs vs).1) := hid (by have := HPK.out; rw [List.take_length] at this; rw [← this])
      have hps := HPS.out
      have HLE : Hid (out.length ≤ pSize fs) := hid (by rw [HPK2.out]; exact HPS2.out)
      have HGL : Hid (packL fs vs = padL out (pSize fs)) := hid (by unfold packL; rw [HPK2.out])
      have hpc : wr.cell? ⟨pb, 0, none⟩ = some (.int .i64 (pSize fs : Int)) := cell_of ((HBF.out _ HWR.out).get HB4.out id) (by rfl)
      clear HPK HPK2 HPS2
      generalize pSize fs = sz at *
      go_wp2_with fail
      refine (pad_of b out sz _ HBU.out HLE.out (by omega) (HBS.out _ HWR.out)).mono ?_
      rintro r w6 ⟨rfl, hb6, hw6⟩
      have HW6 := hid (HWR.out.trans hw6); have HB6 : Hid (Built b b _ w6) := hid (.inr hb6)
      clear hb6 hw6 hpc
      go_wp2_with fail
      refine (Tryz.Builder_String_any_k b b _ _ HB6.out (HBS.out _ HW6.out)).mono ?_
      rintro r w7 ⟨rfl, _, hb7, ho7⟩
      have HW7 := hid (HW6.out.trans ⟨hb7, ho7⟩)
      clear hb7 ho7
      go_wp2
      (try simp only [Exit.inBlock, Exit.then])
      refine bodyPost_ret (results_tt2 rfl _) rfl ?_
      rw [HG.out, HZ.out, HGL.out]
      exact ⟨rfl, HW0.out _ HW7.out⟩
theorem lay_pack (fs : List Fld) (p : Option Addr) (cap : Nat) (vs : List WI) (q : Option Addr) (qc : Nat) (w : World) (hcap : fs.length ≤ cap) (hqc : vs.length ≤ qc) (_hvl : vs.length ≤ 65536) (hfit : ∀ x ∈ vs, x.fit) (hf : FP w w.heap.size p fs) (hv : XP w w.heap.size q vs) :
    Calls Tryz.prog 19 #[.slice p fs.length cap, .slice q vs.length qc] w fun r w' => r = .returned (.tuple #[.string (packS fs vs), iV (fitC fs vs)]) ∧ Keep (fun _ => False) w w' := lay_packU fs p cap vs q qc w hcap hqc hfit hf hv
end Go.Proofs.YtfehiclbcebnoaaGreat

namespace Go.Proofs.YtfehiclbcebnoaaGreat
open Go.RowKit Go.Proofs.Heap Go.Proofs.Sch Go.Proofs.Wide

theorem pSize_le {fs : List Fld} (h : layC fs = 0) : pSize fs ≤ 256 := by
  unfold layC at h
  split at h
  · omega
  · split at h
    · split at h
      · omega
      · omega
    · omega
theorem prtL_len {cs : List Cmp} {x : Prt} (h : partC cs x = 0) : (prtL cs x).length ≤ 257 := by
  obtain ⟨c, _, _, _, hfs, hz⟩ := partC_find h
  have h1 := packL_len hz
  have h2 := pSize_le (fitC_zero hz).1
  unfold prtL
  rw [hfs, List.length_append, leL_len, h1]
  omega
/-- The component that is found. -/
theorem found_one {B : Nat} {w' : World} {id : Int} {cs : List Cmp} {r : Ending} {c : Cmp} (h : Found B w' (fun c => decide (c.id = id)) cs r) (hc : cs.find? (fun c => decide (c.id = id)) = some c) :
    ∃ p z, r = .returned (.tuple #[.agg #[.int .i64 c.id, .string c.name, .slice p c.fs.length z], .bool true]) ∧ c.fs.length ≤ z ∧ w'.ownsRow B 45 3 (.slice p c.fs.length z) c.fs.length (c.fs.flatMap fcl) := by
  rcases h with ⟨k, c', p, z, h1, h2, h3, h4, h5, h6⟩ | ⟨h1, _⟩
  · have h7 := find_of_idx.2 k c' h1 h2
    rw [hc] at h7
    injection h7 with h7
    subst h7
    exact ⟨p, z, h4, h5, h6⟩
  · rw [find_of_idx.1 h1] at hc
    cases hc
theorem found_none {B : Nat} {w' : World} {id : Int} {cs : List Cmp} {r : Ending} (h : Found B w' (fun c => decide (c.id = id)) cs r) (hc : cs.find? (fun c => decide (c.id = id)) = none) :
    r = .returned (.tuple #[.agg #[.int .i64 0, .string ⟨#[]⟩, .slice none 0 0], .bool false]) := by
  rcases h with ⟨k, c', p, z, h1, h2, h3, h4, h5, h6⟩ | ⟨_, h2⟩
  · have h7 := find_of_idx.2 k c' h1 h2
    rw [hc] at h7
    cases h7
  · exact h2

set_option maxRecDepth 20000 in
set_option maxHeartbeats 16000000 in
theorem sc_encodeParts (v : Int) (cs : List Cmp) (p : Option Addr) (cap : Nat) (l : List Prt) (q : Option Addr) (qc : Nat) (w : World) (hl : Small cs) (hll : l.length ≤ 255) (hqc : l.length ≤ qc) (hvl : ∀ x ∈ l, ∀ y ∈ x.vals, y.fit) (hc : CP w w.heap.size p cs) (hv : PP w w.heap.size q l) :
    Calls Tryz.prog 6 #[.agg #[.int .i64 v, .slice p cs.length cap], .slice q l.length qc] w fun r w' => r = .returned (.tuple #[.string (encP v cs l), iV (prtsC v cs l)]) ∧ Keep (fun _ => False) w w' := by
  obtain ⟨w1, hw1, hb1, hs1, hk1⟩ := box1 w #[.int .i64 v, .slice p cs.length cap] 24
  have HK1 := hid hk1; have HB1 := hid hb1
  have HCP := hid (fun (wy : World) (hk : Keep (fun _ => False) w wy) => CP.mono (CP.low hc (Low.keep0 hk)) hk.size)
  have HPP := hid (fun (wy : World) (hk : Keep (fun _ => False) w wy) => PP.mono (PP.low hv (Low.keep0 hk)) hk.size)
  have HCK := hid (sc_check v cs p cap l q qc w1 hl (by omega) hqc hvl (HCP.out w1 hk1) (HPP.out w1 hk1))
  have HL := hid hl; have HVL := hid hvl; have HLL := hid hll
  have c0 := cell_of hb1 (i := 0) (by rfl)
  have c1 := cell_of hb1 (i := 1) (by rfl)
  clear hb1 hs1 hk1 hl hc hv hvl
  go_enter Tryz.func6, Tryz.ntmps6
  go_upto_region 1 with fail
  rw [← hw1]
  clear hw1
  generalize hsb : w.heap.size = sb at *
  go_wp2_with fail
  refine HCK.out.mono ?_
  rintro r w2 ⟨rfl, hk2⟩
  have HK2 := hid (HK1.out.trans hk2)
  have HB2 := hid (hk2.get HB1.out id)
  clear hk2 c0 c1 HCK
  by_cases hz : prtsC v cs l = 0
  rotate_left
  · have HE : Hid (encP v cs l = ⟨#[]⟩) := hid (if_neg hz)
    obtain ⟨R, hR⟩ : ∃ R, prtsC v cs l = R := ⟨_, rfl⟩
    rw [hR] at hz ⊢
    have HR := hid hR
    have g1 : ((R : Int) != 0) = true := by rw [bne_iff_ne]; omega
    have g2 : (R != 0) = true := by rw [bne_iff_ne]; exact hz
    clear hz hR
    go_wp2
    (try simp only [Exit.inBlock, Exit.then])
    refine bodyPost_ret (results_2z rfl _) rfl ?_
    exact ⟨by rw [HE.out, HR.out]; rfl, HK2.out⟩
  have HOK := hid (prtsC_ok hz)
  have HPA := hid (partsC_all [] l (prtsC_ok hz).2.1)
  have HID := hid (partsC_id (prtsC_ok hz).1 (prtsC_ok hz).2.1)
  have HE : Hid (encP v cs l = ⟨(prtsL cs l).toArray⟩) := hid (if_pos hz)
  have HZ := hid hz
  rw [hz]
  clear hz
  obtain ⟨w3, hw3, hb3, hs3, hk3⟩ := box1 w2 #[.slice none 0 0] 61
  have HW3 : Hid (WrS w3 w2.heap.size w2.heap.size (.slice none 0 0) []) := hid ⟨hb3, World.ownsRow_nil _ _ _ _, by simp [Value.ownBlock], Nat.le_refl _⟩
  have HQ : Hid (w2.heap.size < w3.heap.size) := hid (by omega)
  have HSQ : Hid (sb < w2.heap.size) := hid (lt_of_heap HB2.out)
  have HB3 := hid (hk3.get HB2.out id)
  have HK3 := hid (HK2.out.trans hk3)
  have HLOW : Hid (∀ wy sv l, WrN w3 wy w2.heap.size w2.heap.size (.slice none 0 0) sv l → Low w2.heap.size w3 wy) := hid (fun wy sv l h => h.low HW3.out.from HQ.out)
  have HBB : Hid (∀ wy sv l, WrN w3 wy w2.heap.size w2.heap.size (.slice none 0 0) sv l → wy.heap[sb]? = some (.cells #[.int .i64 v, .slice p cs.length cap] 24 (0, 0))) := hid (fun wy sv l h => (HLOW.out wy sv l h sb HSQ.out).trans HB3.out)
  have HKF : Hid (∀ wy sv l, WrN w3 wy w2.heap.size w2.heap.size (.slice none 0 0) sv l → Keep (fun _ => False) w wy) := hid (fun wy sv l h => keep_new HK3.out h.keep (fun k e => by
    rcases e with e | e
    · have := HSQ.out; omega
    · simp [Value.ownBlock] at e))
  clear hb3 hs3 hk3
  go_upto_region 5 with fail
  rw [← hw3]
  clear hw3
  generalize w2.heap.size = qb at *
  have hwl : IntKind.u64.wrap (l.length : Int) = (l.length : Int) := u64_natZ _ (by omega)
  go_wp2_with fail
  refine (oct_num1 l.length (by omega) qb qb _ [] w3 (by simp) HW3.out).mono ?_
  rintro r w4 ⟨sv4, rfl, hn⟩
  have HN4 := hid hn
  clear hn
  obtain ⟨T, hT⟩ : ∃ T, [] ++ leL 1 l.length = T := ⟨_, rfl⟩
  have HT : Hid (T.length ≤ 100) := hid (by rw [← hT]; simp [leL_len])
  have HTE := hid hT
  rw [hT] at HN4
  clear hT
  go_wp2_with fail
  clear hwl hll
  go_loopw [9, 10, 11, 12, 13, 29] (fun _ _ _ _ _ i wr => ∃ (k : Nat) (sv' : Value), k ≤ l.length ∧ i = iV k ∧ WrN w3 wr qb qb (.slice none 0 0) sv' (T ++ (l.take k).flatMap (prtL cs))) (fun _ _ _ _ _ i _ => l.length + 1 - (intOf i).toNat)
  case atStart => exact ⟨0, sv4, by omega, rfl, by simpa using HN4.out⟩
  case round =>
    obtain ⟨k, svk, hk, rfl, hn⟩ := hrel
    have HNR := hid hn
    clear hn
    by_cases hlt : k < l.length
    · obtain ⟨x, hx⟩ : ∃ x, l[k]? = some x := ⟨l[k], by simp [hlt]⟩
      have HX := hid (flat_next (prtL cs) hx)
      have hm := List.mem_of_getElem? hx
      obtain ⟨b, off, fq, fk, rfl, hb, d0, d1, hfk, hxp⟩ := PP.at (HPP.out wr (HKF.out _ _ _ HNR.out)) hx
      obtain ⟨c, hf, hcm, hci, hfs, hfz⟩ := partC_find (HPA.out x hm)
      have HXP := hid hxp
      have HF := hid hf; have HFS := hid hfs; have HFZ := hid hfz; have HFK := hid hfk
      have HXF := hid (HVL.out x hm); have HXI := hid (HID.out x hm)
      have HLK : Hid (((l.take k).flatMap (prtL cs)).length ≤ 65535) := hid (by
        have h := flat_le (prtL cs) 257 (l := l.take k) (fun g hg => prtL_len (HPA.out g (List.mem_of_mem_take hg)))
        have h8 := HLL.out
        rw [List.length_take] at h
        have : min k l.length * 257 ≤ 255 * 257 := Nat.mul_le_mul_right _ (by omega)
        omega)
      have hin : (0 : Int) ≤ (k : Int) ∧ (k : Int) < (l.length : Int) := ⟨by omega, by omega⟩
      clear hx hb hm hf hcm hci hfs hfz hxp hfk
      obtain ⟨wx, hwx, hbx, hsx, hkx⟩ := box1 wr #[.int .i64 x.comp, .slice fq x.vals.length fk] 30
      have HNX := hid (HNR.out.more hkx)
      have HXB : Hid (∀ wy sv' l', WrN wx wy qb qb svk sv' l' → wy.heap[wr.heap.size]? = some (.cells #[.int .i64 x.comp, .slice fq x.vals.length fk] 30 (0, 0))) := hid (fun wy sv' l' h => h.keep.get hbx (fun e => by
        rcases e with e | e
        · have := lt_of_heap HNR.out.st.block; omega
        · have := (HNR.out.st.own.lt _ e).2; omega))
      have HXV := hid (fun (wy : World) (h : Keep (fun _ => False) wr wy) => XP.mono (XP.low HXP.out (Low.keep0 h)) h.size)
      have HKX := hid hkx
      clear hbx hsx hkx HXP
      go_upto_region 9 with fail
      rw [← hwx]
      clear hwx d0 d1
      generalize hxb : wr.heap.size = xb at *
      have HXW := hid hxb
      clear hxb
      have hh := HXB.out wx svk _ (WrN.refl HNX.out.st)
      have e0 := cell_of hh (i := 0) (by rfl)
      have hh2 := HBB.out wx _ _ HNX.out
      have c0 := cell_of hh2 (i := 0) (by rfl)
      have c1 := cell_of hh2 (i := 1) (by rfl)
      clear hh hh2
      go_wp2_with fail
      refine (sch_find x.comp v cs p cap wx HL.out (HCP.out wx (HKF.out _ _ _ HNX.out))).mono ?_
      rintro r wf ⟨hr, hkf⟩
      obtain ⟨cp, cz, rfl, hcz, hco⟩ := found_one hr HF.out
      have HCO := hid hco; have HCZ := hid hcz
      have HNF := hid (HNX.out.more hkf)
      have HXF2 := hid (fun wy sv' l' (h : WrN wf wy qb qb svk sv' l') => h.keep.get (hkf.get (HXB.out wx svk _ (WrN.refl HNX.out.st)) id) (fun e => by
        rcases e with e | e
        · have := lt_of_heap HNR.out.st.block; have := HXW.out; omega
        · have := (HNR.out.st.own.lt _ e).2; have := HXW.out; omega))
      have HKXF := hid (HKX.out.trans hkf)
      clear hr hkf hco hcz c0 c1 e0
      obtain ⟨wg, hwg, hbg, hsg, hkg⟩ := box1 wf #[.int .i64 c.id, .string c.name, .slice cp c.fs.length cz] 48
      have HNG := hid (HNF.out.more hkg)
      have HKXG := hid (HKXF.out.trans hkg)
      have HFP := hid (FP.mono (FP.low (fp_own rfl HCO.out) (Low.keep0 hkg)) hkg.size)
      have HXG := hid (hkg.get (HXF2.out wf svk _ (WrN.refl HNF.out.st)) id)
      have f2 := cell_of hbg (i := 2) (by rfl)
      have e1 := cell_of HXG.out (i := 1) (by rfl)
      clear hbg hsg hkg
      go_upto_region 10 with fail
      rw [← hwg]
      clear hwg
      generalize wf.heap.size = gb at *
      go_wp2_with fail
      refine (lay_packU c.fs cp cz x.vals fq fk wg HCZ.out HFK.out HXF.out HFP.out (HXV.out wg HKXG.out)).mono ?_
      rintro r wp ⟨rfl, hkp⟩
      have HNP := hid (HNG.out.more hkp)
      have HXP2 := hid (hkp.get HXG.out id)
      have hps := packS_ok HFZ.out
      have hpl := packL_len HFZ.out
      have hp256 := pSize_le (fitC_zero HFZ.out).1
      have HPL : Hid ((packL c.fs x.vals).length ≤ 256) := hid (by omega)
      have hux : IntKind.u64.wrap x.comp = (u64N x.comp : Int) := u64N_eq x.comp
      have HUX : Hid (u64N x.comp < 256) := hid (by have := HXI.out; rw [u64N_pos (by omega) (by omega)]; omega)
      have e0 := cell_of HXP2.out (i := 0) (by rfl)
      have HPS := hid hps
      clear hkp hps hpl hp256 f2 e1
      go_wp2_with fail
      refine (oct_num1 (u64N x.comp) HUX.out qb qb svk _ wp (by simp only [List.length_append]; have := HT.out; have := HLK.out; omega) HNP.out.st).mono ?_
      rintro r ws ⟨svs, rfl, hn⟩
      have HNS := hid (HNP.out.trans hn HQ.out)
      clear hn hux e0
      go_wp2_with fail
      refine (wr_raw (packS c.fs x.vals) qb qb svs _ ws (by
        have h1 : (packS c.fs x.vals).size = (packL c.fs x.vals).length := by rw [HPS.out]; exact bs_size _
        rw [h1]
        simp only [List.length_append, leL_len]; have := HT.out; have := HLK.out; have := HPL.out; omega) HNS.out.st).mono ?_
      rintro r wt ⟨svt, rfl, hn⟩
      have HNT := hid (HNS.out.trans hn HQ.out)
      clear hn
      have hl255 := HLL.out
      go_wp2
      go_roundw
      case rel =>
        refine ⟨k + 1, svt, by omega, by go_num, ?_⟩
        rw [HX.out, ← List.append_assoc]
        have h := HNT.out
        have h1 : (packS c.fs x.vals).data.toList = packL c.fs x.vals := by rw [HPS.out]
        rw [h1] at h
        unfold prtL
        rw [HFS.out, ← List.append_assoc]
        exact h
      case measure => simp [intOf]; omega
    · obtain rfl : k = l.length := by omega
      have g1 : decide ((l.length : Int) < (l.length : Int)) = false := decide_eq_false (by omega)
      have HEND : Hid (WrN w3 wr qb qb (.slice none 0 0) svk (prtsL cs l)) := hid (by
        have h := HNR.out
        rw [List.take_length, ← HTE.out] at h
        simpa [prtsL, List.append_assoc] using h)
      go_wp2_with fail
      refine (wr_string qb qb svk _ wr HEND.out.st).mono ?_
      rintro r w_ ⟨rfl, rfl⟩
      have HK := hid (HKF.out _ _ _ HEND.out)
      clear g1
      go_wp2
      (try simp only [Exit.inBlock, Exit.then])
      refine bodyPost_ret (results_2z rfl _) rfl ?_
      exact ⟨by rw [HE.out, HZ.out]; rfl, HK.out⟩
end Go.Proofs.YtfehiclbcebnoaaGreat

namespace Go.Proofs.YtfehiclbcebnoaaGreat
open Go.RowKit Go.Proofs.Heap Go.Proofs.Sch

/-- An element's cells. -/
def ecl (e : Int × Nat) : List Value := [.int .i64 e.1, iV e.2]
/-- The elements of a field that begins at a. -/
def eAdd (k : Int) (a sz n : Nat) : List (Int × Nat) := (List.range n).map (fun j => (k, a + sz * j))
def eStep (st : Nat × List (Int × Nat)) (f : Fld) : Nat × List (Int × Nat) := (upN st.1 (szN f.kind) + szN f.kind * f.count.toNat, st.2 ++ eAdd f.kind (upN st.1 (szN f.kind)) (szN f.kind) f.count.toNat)
/-- All elements of fields. -/
def eRun (fs : List Fld) : List (Int × Nat) := (fs.foldl eStep (0, [])).2

theorem eAdd_zero (k : Int) (a sz : Nat) : eAdd k a sz 0 = [] := rfl
theorem eAdd_next (k : Int) (a sz n : Nat) : eAdd k a sz (n + 1) = eAdd k a sz n ++ [(k, a + sz * n)] := by
  unfold eAdd; rw [List.range_succ, List.map_append]; rfl
theorem eAdd_len (k : Int) (a sz n : Nat) : (eAdd k a sz n).length = n := by simp [eAdd]
theorem eFold_at : ∀ (fs : List Fld) (a g : Nat) (es : List (Int × Nat)) (ss : List Nat), (fs.foldl eStep (a, es)).1 = (fs.foldl pStep (a, g, ss)).1
  | [], _, _, _, _ => rfl
  | f :: r, a, g, es, ss => by
    rw [List.foldl_cons, List.foldl_cons]
    exact eFold_at r _ _ _ _
theorem eRun_next {fs : List Fld} {k : Nat} {f : Fld} (h : fs[k]? = some f) : eRun (fs.take (k + 1)) = eRun (fs.take k) ++ eAdd f.kind (upN (pRun (fs.take k)).1 (szN f.kind)) (szN f.kind) f.count.toNat := by
  unfold eRun pRun
  rw [take_next h, List.foldl_append, List.foldl_cons, List.foldl_nil]
  unfold eStep
  rw [← eFold_at (fs.take k) 0 1 [] []]
  rfl
theorem eRun_len : ∀ (fs : List Fld), (eRun fs).length = sumN fs := by
  have key : ∀ (fs : List Fld) (st : Nat × List (Int × Nat)), (fs.foldl eStep st).2.length = st.2.length + sumN fs := by
    intro fs
    induction fs with
    | nil => intro st; simp [sumN]
    | cons f r ih =>
      intro st
      rw [List.foldl_cons, ih]
      simp only [eStep, List.length_append, eAdd_len, sumN]
      omega
  intro fs
  have := key fs (0, [])
  simpa [eRun] using this

/-- The multiple that is met first. -/
theorem upN_meet {a s x : Nat} (hs : 1 ≤ s) (h1 : a ≤ x) (h2 : x ≤ upN a s) (h3 : x % s = 0) : x = upN a s := by
  have hd := Nat.div_add_mod (a + s - 1) s
  have hm := Nat.mod_lt (a + s - 1) (show 0 < s by omega)
  have hx := Nat.div_add_mod x s
  have e : upN a s = s * ((a + s - 1) / s) := by unfold upN; rw [Nat.mul_comm]
  rw [e] at h2 ⊢
  rw [h3] at hx
  generalize (a + s - 1) / s = q at *
  generalize x / s = t at *
  have h4 : s * t < s * q + s → t < q + 1 := fun h => Nat.lt_of_mul_lt_mul_left (a := s) (by rw [Nat.mul_add]; omega)
  have h5 : s * q < s * t + s → q < t + 1 := fun h => Nat.lt_of_mul_lt_mul_left (a := s) (by rw [Nat.mul_add]; omega)
  have : t = q := by
    have h6 := h4 (by omega)
    have h7 := h5 (by omega)
    omega
  subst this
  omega
theorem upN_dvd (a s : Nat) : upN a s % s = 0 := by unfold upN; exact Nat.mul_mod_left ..
theorem upN_ge {a s : Nat} (hs : 1 ≤ s) : a ≤ upN a s := by
  have hd := Nat.div_add_mod (a + s - 1) s
  have hm := Nat.mod_lt (a + s - 1) (show 0 < s by omega)
  unfold upN
  rw [Nat.mul_comm]
  omega

/-- The reference's two rows under way: the elements, where fields begin. -/
structure LY (w : World) (v6 v7 : Value) (es : List (Int × Nat)) (ss : List Nat) (y : World) : Prop where
  keep : Keep (fun _ => False) w y
  o6 : y.ownsRow w.heap.size 111 2 v6 es.length (es.flatMap ecl)
  o7 : y.ownsRow w.heap.size 3 1 v7 ss.length (ss.map iV)
  dis : ∀ g, v6.ownBlock = some g → v7.ownBlock = some g → False
/-- A field's box beside them. -/
structure LB (v6 v7 : Value) (bx : Nat) (f : Fld) (y : World) : Prop where
  box : y.heap[bx]? = some (.cells #[.string f.name, .int .i64 f.kind, .int .i64 f.count] 45 (0, 0))
  n6 : v6.ownBlock ≠ some bx
  n7 : v7.ownBlock ≠ some bx

section
variable {w y y' : World} {v6 v7 v' : Value} {es : List (Int × Nat)} {ss : List Nat} {bx : Nat} {f : Fld}
theorem LY.keep0 (h : LY w v6 v7 es ss y) (hk : Keep (fun _ => False) y y') : LY w v6 v7 es ss y' :=
  ⟨h.keep.trans hk, owns_keep h.o6 (fun q hq => hk.block q (h.o6.lt q hq).2 id), owns_keep h.o7 (fun q hq => hk.block q (h.o7.lt q hq).2 id), h.dis⟩
theorem LB.keep0 (h : LB v6 v7 bx f y) (hk : Keep (fun _ => False) y y') : LB v6 v7 bx f y' := ⟨hk.get h.box id, h.n6, h.n7⟩
theorem LY.newBox (h : LY w v6 v7 es ss y) (f : Fld) : LB v6 v7 y.heap.size f (y.alloc (.cells #[.string f.name, .int .i64 f.kind, .int .i64 f.count] 45)) :=
  ⟨heap_alloc_new y _, fun e => by have := (h.o6.lt _ e).2; omega, fun e => by have := (h.o7.lt _ e).2; omega⟩
theorem LY.app6 (h : LY w v6 v7 es ss y) (hb : LB v6 v7 bx f y) {e : Int × Nat} (hown : y'.ownsRow w.heap.size 111 2 v' (es.length + 1) (es.flatMap ecl ++ ecl e)) (hg : y.grownBy y' v6.ownBlock) (ha : v'.ownBlock = v6.ownBlock ∨ v'.ownBlock = some y.heap.size) :
    LY w v' v7 (es ++ [e]) ss y' ∧ LB v' v7 bx f y' := by
  have hk : Keep (fun q => v6.ownBlock = some q) y y' := (Keep.refl _ y).grown hg (fun k hk => .inr hk)
  refine ⟨⟨h.keep.trans' hk (fun i hi e => by have := (h.o6.lt _ e).1; omega), by simpa using hown, owns_keep h.o7 (fun q hq => hk.block q (h.o7.lt q hq).2 (fun e => h.dis q e hq)), fun g h1 h2 => ?_⟩, hk.get hb.box hb.n6, fun e => ?_, hb.n7⟩
  · rcases ha with ha | ha
    · exact h.dis g (ha ▸ h1) h2
    · rw [ha] at h1
      injection h1 with h1
      have := (h.o7.lt g h2).2
      omega
  · rcases ha with ha | ha
    · exact hb.n6 (ha ▸ e)
    · rw [ha] at e
      injection e with e
      have := lt_of_heap hb.box
      omega
theorem LY.app7 (h : LY w v6 v7 es ss y) (hb : LB v6 v7 bx f y) {a : Nat} (hown : y'.ownsRow w.heap.size 3 1 v' (ss.length + 1) (ss.map iV ++ [iV a])) (hg : y.grownBy y' v7.ownBlock) (ha : v'.ownBlock = v7.ownBlock ∨ v'.ownBlock = some y.heap.size) :
    LY w v6 v' es (ss ++ [a]) y' ∧ LB v6 v' bx f y' := by
  have hk : Keep (fun q => v7.ownBlock = some q) y y' := (Keep.refl _ y).grown hg (fun k hk => .inr hk)
  refine ⟨⟨h.keep.trans' hk (fun i hi e => by have := (h.o7.lt _ e).1; omega), owns_keep h.o6 (fun q hq => hk.block q (h.o6.lt q hq).2 (fun e => h.dis q hq e)), by simpa using hown, fun g h1 h2 => ?_⟩, hk.get hb.box hb.n7, hb.n6, fun e => ?_⟩
  · rcases ha with ha | ha
    · exact h.dis g h1 (ha ▸ h2)
    · rw [ha] at h2
      injection h2 with h2
      have := (h.o6.lt g h1).2
      omega
  · rcases ha with ha | ha
    · exact hb.n7 (ha ▸ e)
    · rw [ha] at e
      injection e with e
      have := lt_of_heap hb.box
      omega
/-- A block more for what is appended. -/
theorem Keep.grown_alloc {w y y' : World} {o : Obj} {row : Option Nat} (hg : (y.alloc o).grownBy y' row) (hr : ∀ k, row = some k → w.heap.size ≤ k) (hk : Keep (fun _ => False) w y) : Keep (fun _ => False) w y' :=
  (hk.alloc o).grown hg (fun k h => .inl (hr k h))
end
theorem info_elem : (Tryz.prog.info? 111).map (fun i => (i.zero, i.size, i.bytes)) = some (some (.agg #[.int .i64 0, .int .i64 0]), 2, 16) := by kernel_rfl
end Go.Proofs.YtfehiclbcebnoaaGreat

namespace Go.Proofs.YtfehiclbcebnoaaGreat
open Go.RowKit Go.Proofs.Heap

theorem sizeK_out {k : Int} (h : k < 1 ∨ 10 < k) : sizeK k = 0 := by
  unfold sizeK
  rw [if_neg (by omega), if_neg (by omega), if_neg (by omega), if_neg (by omega)]

abbrev NB : Array Value := #[.int .i64 0, .int .i64 1, .int .i64 1, .int .i64 2, .int .i64 4, .int .i64 8, .int .i64 1, .int .i64 2, .int .i64 4, .int .i64 8, .int .i64 8]

set_option maxRecDepth 20000 in
set_option maxHeartbeats 2000000 in
theorem r_bytes (k : Int) (w : World) : Calls Tryz.prog 61 #[.int .i64 k] w fun r w' => r = .returned (.int .i64 (sizeK k)) ∧ Keep (fun _ => False) w w' := by
  go_enter Tryz.func61, Tryz.ntmps61
  by_cases h1 : k < 1
  · have g1 : decide (k < 1) = true := decide_eq_true h1
    have G := hid (sizeK_out (.inl h1))
    clear h1
    go_wp2
    go_ret
    exact ⟨by rw [G.out]; rfl, Keep.refl _ _⟩
  have g1 : decide (k < 1) = false := decide_eq_false h1
  by_cases h2 : 10 < k
  · have g2 : decide (10 < k) = true := decide_eq_true h2
    have G := hid (sizeK_out (.inr h2))
    clear h1 h2
    go_wp2
    go_ret
    exact ⟨by rw [G.out]; rfl, Keep.refl _ _⟩
  have g2 : decide (10 < k) = false := decide_eq_false h2
  have hb := heap_alloc_new w (.cells NB 147)
  have HK := hid ((Keep.refl (fun _ => False) w).alloc (.cells NB 147))
  have HB := hid hb
  clear hb
  have hc : k = 1 ∨ k = 2 ∨ k = 3 ∨ k = 4 ∨ k = 5 ∨ k = 6 ∨ k = 7 ∨ k = 8 ∨ k = 9 ∨ k = 10 := by omega
  clear h1 h2
  go_upto_region 4 with fail
  generalize w.alloc (.cells NB 147) = w1 at *
  generalize w.heap.size = b at *
  clear g1 g2
  rcases hc with rfl | rfl | rfl | rfl | rfl | rfl | rfl | rfl | rfl | rfl
  · have c : w1.cell? ⟨b, 1, none⟩ = some (.int .i64 1) := cell_of HB.out (by rfl)
    go_wp2
    go_ret
    exact ⟨by rfl, HK.out⟩
  · have c : w1.cell? ⟨b, 2, none⟩ = some (.int .i64 1) := cell_of HB.out (by rfl)
    go_wp2
    go_ret
    exact ⟨by rfl, HK.out⟩
  · have c : w1.cell? ⟨b, 3, none⟩ = some (.int .i64 2) := cell_of HB.out (by rfl)
    go_wp2
    go_ret
    exact ⟨by rfl, HK.out⟩
  · have c : w1.cell? ⟨b, 4, none⟩ = some (.int .i64 4) := cell_of HB.out (by rfl)
    go_wp2
    go_ret
    exact ⟨by rfl, HK.out⟩
  · have c : w1.cell? ⟨b, 5, none⟩ = some (.int .i64 8) := cell_of HB.out (by rfl)
    go_wp2
    go_ret
    exact ⟨by rfl, HK.out⟩
  · have c : w1.cell? ⟨b, 6, none⟩ = some (.int .i64 1) := cell_of HB.out (by rfl)
    go_wp2
    go_ret
    exact ⟨by rfl, HK.out⟩
  · have c : w1.cell? ⟨b, 7, none⟩ = some (.int .i64 2) := cell_of HB.out (by rfl)
    go_wp2
    go_ret
    exact ⟨by rfl, HK.out⟩
  · have c : w1.cell? ⟨b, 8, none⟩ = some (.int .i64 4) := cell_of HB.out (by rfl)
    go_wp2
    go_ret
    exact ⟨by rfl, HK.out⟩
  · have c : w1.cell? ⟨b, 9, none⟩ = some (.int .i64 8) := cell_of HB.out (by rfl)
    go_wp2
    go_ret
    exact ⟨by rfl, HK.out⟩
  · have c : w1.cell? ⟨b, 10, none⟩ = some (.int .i64 8) := cell_of HB.out (by rfl)
    go_wp2
    go_ret
    exact ⟨by rfl, HK.out⟩
end Go.Proofs.YtfehiclbcebnoaaGreat
