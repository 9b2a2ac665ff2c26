/- What is proved: what Quo, Rem of the great numbers answer, whatever they are handed. -/
import Derived.Test.YtlhdofkgcbmnnaaGreatDoorMWideAdd
import Derived.Test.YtlhdofkgcbmnnaaGreatDoorMHeap
import Derived.Shelf.Bits.Mul64
import Derived.Test.YtlhdofkgcbmnnaaGreatDoorMRdr
import Derived.Test.YtlhdofkgcbmnnaaGreatDoorMExpr2
namespace Go.Proofs.Wide
def quoW (x y : WI) : WI × Nat := if badW x y true = true then (zW, 1) else (ofM (x.neg != y.neg) (x.mag / y.mag), 0)
def remW (x y : WI) : WI × Nat := if badW x y true = true then (zW, 1) else (ofM x.neg (x.mag % y.mag), 0)
theorem badD_no {x y : WI} (h : badW x y true = false) : x.form = true ∧ y.form = true ∧ 0 < y.mag := by
  unfold badW at h
  simp at h
  obtain ⟨⟨h1, h2⟩, h3⟩ := h
  exact ⟨h1, h2, by omega⟩
theorem quoW_fit {x y : WI} (hx : x.fit) : (quoW x y).1.fit := by
  unfold quoW
  split
  · exact zW_fit
  · exact ofM_fit _ (Nat.lt_of_le_of_lt (Nat.div_le_self _ _) (mag_lt hx))
theorem remW_fit {x y : WI} (hx : x.fit) : (remW x y).1.fit := by
  unfold remW
  split
  · exact zW_fit
  · exact ofM_fit _ (Nat.lt_of_le_of_lt (Nat.mod_le _ _) (mag_lt hx))
end Go.Proofs.Wide
namespace Go.Proofs.YtlhdofkgcbmnnaaGreatDoor
open Go.RowKit Go.Proofs.Heap Go.Proofs.Wide

theorem made_ofM (ng : Bool) (m : Nat) (hm : m < 340282366920938463463374607431768211456) (w : World) : Calls Tryz.prog 46 #[.bool ng, .int .u64 ((m / 18446744073709551616 : Nat) : Int), .int .u64 ((m % 18446744073709551616 : Nat) : Int)] w fun r w' => r = .returned (WV (ofM ng m)) ∧ Keep (fun _ => False) w w' := by
  have := w_made ng (m / 18446744073709551616) (m % 18446744073709551616) (by omega) (by omega) w
  rw [norm_of ng (by omega), show m / 18446744073709551616 * 18446744073709551616 + m % 18446744073709551616 = m by omega] at this
  exact this

set_option maxRecDepth 20000 in
set_option maxHeartbeats 8000000 in
theorem w_quoU (x y : WI) (hx : x.fit) (hy : y.fit) (w : World) : Calls Tryz.prog 91 #[WV x, WV y] w fun r w' => r = .returned (.tuple #[WV (quoW x y).1, iV (quoW x y).2]) ∧ Keep (fun _ => False) w w' := by
  obtain ⟨w1, hw1, hb1, hb2, hb3, hs1, hk1⟩ := box3 w (WC x) (WC y) Z3 64 64 64
  have HK1 := hid hk1; have HA1 := hid hb1; have HB1 := hid hb2; have HR1 := hid hb3
  have HFX := hid hx; have HFY := hid hy
  clear hb1 hb2 hb3 hs1 hk1 hx hy
  go_enter Tryz.func91, Tryz.ntmps91
  go_upto_region 1 with fail
  rw [← hw1]
  clear hw1
  obtain ⟨sa, hsa⟩ : ∃ sa, w.heap.size = sa := ⟨_, rfl⟩
  obtain ⟨sb, hsb⟩ : ∃ sb, w.heap.size + 1 = sb := ⟨_, rfl⟩
  obtain ⟨sr, hsr⟩ : ∃ sr, w.heap.size + 1 + 1 = sr := ⟨_, rfl⟩
  have HSR : Hid (w.heap.size ≤ sr ∧ w.heap.size ≤ sa ∧ w.heap.size ≤ sb ∧ sa ≠ sr ∧ sb ≠ sr ∧ sa ≠ sb) := hid (by omega)
  rw [hsr] at HR1 ⊢
  rw [hsb] at HB1 ⊢
  rw [hsa] at HA1 ⊢
  clear hsa hsb hsr
  have a0 : w1.cell? ⟨sa, 0, none⟩ = some (.bool x.neg) := cell_of HA1.out (by rfl)
  have a1 : w1.cell? ⟨sa, 1, none⟩ = some (.int .u64 (x.hi : Int)) := cell_of HA1.out (by rfl)
  have a2 : w1.cell? ⟨sa, 2, none⟩ = some (.int .u64 (x.lo : Int)) := cell_of HA1.out (by rfl)
  have b0 : w1.cell? ⟨sb, 0, none⟩ = some (.bool y.neg) := cell_of HB1.out (by rfl)
  have b1 : w1.cell? ⟨sb, 1, none⟩ = some (.int .u64 (y.hi : Int)) := cell_of HB1.out (by rfl)
  have b2 : w1.cell? ⟨sb, 2, none⟩ = some (.int .u64 (y.lo : Int)) := cell_of HB1.out (by rfl)
  obtain ⟨bd, hbd⟩ : ∃ bd, badW x y true = bd := ⟨_, rfl⟩
  have HBD := hid hbd
  have HCK := hid (w_checkU x y true HFX.out HFY.out w1)
  rw [hbd] at HCK
  clear hbd
  go_wp2_with fail
  refine HCK.out.mono ?_
  rintro r w2 ⟨rfl, hk⟩
  have HK2 := hid (HK1.out.trans hk); have HA2 := hid (hk.get HA1.out id); have HB2 := hid (hk.get HB1.out id); have HR2 := hid (hk.get HR1.out id)
  clear hk HCK
  clear a0 a1 a2 b0 b1 b2
  cases bd
  rotate_left
  · as_aux_lemma =>
    have G : Hid (quoW x y = (zW, 1)) := hid (if_pos HBD.out)
    have f0 := free_of HR2.out 0
    have f1 := free_of HR2.out 1
    have f2 := free_of HR2.out 2
    have c0 := cell_of HR2.out (i := 0) (by rfl)
    have c1 := cell_of HR2.out (i := 1) (by rfl)
    have c2 := cell_of HR2.out (i := 2) (by rfl)
    go_wp2
    (try simp only [Exit.inBlock, Exit.then])
    refine bodyPost_ret (results_ct rfl _ rfl (run_loadVar_row _ sr _ 64 _ _ _ (cells3 (.bool false) (.int .u64 0) (.int .u64 0) HR2.out) Tryz.underlying64 rfl (by kernel_rfl))) rfl ?_
    exact ⟨by rw [G.out]; rfl, ((HK2.out.setCell_new (p := ⟨sr, 0, none⟩) (by show _ ≤ sr; have := HSR.out; omega) _).setCell_new (p := ⟨sr, 1, none⟩) (by show _ ≤ sr; have := HSR.out; omega) _).setCell_new (p := ⟨sr, 2, none⟩) (by show _ ≤ sr; have := HSR.out; omega) _⟩
  have G : Hid (quoW x y = (ofM (x.neg != y.neg) (x.mag / y.mag), 0)) := hid (by unfold quoW; rw [if_neg (by rw [HBD.out]; decide)])
  have HFO := hid (badD_no HBD.out)
  have a0 : w2.cell? ⟨sa, 0, none⟩ = some (.bool x.neg) := cell_of HA2.out (by rfl)
  have a1 : w2.cell? ⟨sa, 1, none⟩ = some (.int .u64 (x.hi : Int)) := cell_of HA2.out (by rfl)
  have a2 : w2.cell? ⟨sa, 2, none⟩ = some (.int .u64 (x.lo : Int)) := cell_of HA2.out (by rfl)
  have b0 : w2.cell? ⟨sb, 0, none⟩ = some (.bool y.neg) := cell_of HB2.out (by rfl)
  have b1 : w2.cell? ⟨sb, 1, none⟩ = some (.int .u64 (y.hi : Int)) := cell_of HB2.out (by rfl)
  have b2 : w2.cell? ⟨sb, 2, none⟩ = some (.int .u64 (y.lo : Int)) := cell_of HB2.out (by rfl)
  have HDV := hid (w_divide x y HFX.out HFY.out HFO.out.2.2 (mag_form HFY.out HFO.out.2.1) w2)
  have HMD : Hid (x.mag / y.mag < 340282366920938463463374607431768211456) := hid (Nat.lt_of_le_of_lt (by first | exact Nat.div_le_self _ _ | exact Nat.mod_le _ _) (mag_lt HFX.out))
  go_wp2_with fail
  refine HDV.out.mono ?_
  rintro r w3 ⟨rfl, hk⟩
  have HK3 := hid (HK2.out.trans hk); have HA3 := hid (hk.get HA2.out id); have HB3 := hid (hk.get HB2.out id); have HR3 := hid (hk.get HR2.out id)
  clear hk HDV
  clear a0 a1 a2 b0 b1 b2
  obtain ⟨U, hU⟩ : ∃ U, dW (x.mag / y.mag) = U := ⟨_, rfl⟩
  obtain ⟨V, hV⟩ : ∃ V, dW (x.mag % y.mag) = V := ⟨_, rfl⟩
  simp only [hU, hV]
  have HUV := hid (And.intro hU hV)
  clear hU hV
  obtain ⟨w4, hw4, hb1, hb2, hs4, hk4⟩ := box2 w3 (WC U) (WC V) 64 64
  have HK4 := hid (HK3.out.trans hk4); have HA4 := hid (hk4.get HA3.out id); have HB4 := hid (hk4.get HB3.out id); have HR4 := hid (hk4.get HR3.out id); have HU4 := hid hb1; have HV4 := hid hb2
  clear hb1 hb2 hs4 hk4
  go_upto_region 5 with fail
  rw [← hw4]
  clear hw4
  obtain ⟨su, hsu⟩ : ∃ s, w3.heap.size = s := ⟨_, rfl⟩
  obtain ⟨sv, hsv⟩ : ∃ s, w3.heap.size + 1 = s := ⟨_, rfl⟩
  rw [hsv] at HV4 ⊢
  rw [hsu] at HU4 ⊢
  clear hsu hsv
  have a0 : w4.cell? ⟨sa, 0, none⟩ = some (.bool x.neg) := cell_of HA4.out (by rfl)
  have a1 : w4.cell? ⟨sa, 1, none⟩ = some (.int .u64 (x.hi : Int)) := cell_of HA4.out (by rfl)
  have a2 : w4.cell? ⟨sa, 2, none⟩ = some (.int .u64 (x.lo : Int)) := cell_of HA4.out (by rfl)
  have b0 : w4.cell? ⟨sb, 0, none⟩ = some (.bool y.neg) := cell_of HB4.out (by rfl)
  have b1 : w4.cell? ⟨sb, 1, none⟩ = some (.int .u64 (y.hi : Int)) := cell_of HB4.out (by rfl)
  have b2 : w4.cell? ⟨sb, 2, none⟩ = some (.int .u64 (y.lo : Int)) := cell_of HB4.out (by rfl)
  have p0 : w4.cell? ⟨su, 0, none⟩ = some (.bool U.neg) := cell_of HU4.out (by rfl)
  have p1 : w4.cell? ⟨su, 1, none⟩ = some (.int .u64 (U.hi : Int)) := cell_of HU4.out (by rfl)
  have p2 : w4.cell? ⟨su, 2, none⟩ = some (.int .u64 (U.lo : Int)) := cell_of HU4.out (by rfl)
  have q0 : w4.cell? ⟨sv, 0, none⟩ = some (.bool V.neg) := cell_of HV4.out (by rfl)
  have q1 : w4.cell? ⟨sv, 1, none⟩ = some (.int .u64 (V.hi : Int)) := cell_of HV4.out (by rfl)
  have q2 : w4.cell? ⟨sv, 2, none⟩ = some (.int .u64 (V.lo : Int)) := cell_of HV4.out (by rfl)
  have HMM : Hid (Calls Tryz.prog 46 #[.bool (x.neg != y.neg), .int .u64 (U.hi : Int), .int .u64 (U.lo : Int)] w4 fun r w' => r = .returned (WV (ofM (x.neg != y.neg) (x.mag / y.mag))) ∧ Keep (fun _ => False) w4 w') := hid (by
    have := made_ofM (x.neg != y.neg) (x.mag / y.mag) HMD.out w4
    rw [← HUV.out.1]
    exact this)
  go_wp2_with fail
  refine HMM.out.mono ?_
  rintro r w5 ⟨rfl, hk⟩
  have HK5 := hid (HK4.out.trans hk); have HR5 := hid (hk.get HR4.out id)
  clear hk HMM
  clear a0 a1 a2 b0 b1 b2 p0 p1 p2 q0 q1 q2
  obtain ⟨z, hz⟩ : ∃ z, ofM (x.neg != y.neg) (x.mag / y.mag) = z := ⟨_, rfl⟩
  rw [hz]
  have HZ := hid hz
  clear hz
  have f0 := free_of HR5.out 0
  have f1 := free_of HR5.out 1
  have f2 := free_of HR5.out 2
  have c0 := cell_of HR5.out (i := 0) (by rfl)
  have c1 := cell_of HR5.out (i := 1) (by rfl)
  have c2 := cell_of HR5.out (i := 2) (by rfl)
  go_wp2
  (try simp only [Exit.inBlock, Exit.then])
  refine bodyPost_ret (results_ct rfl _ rfl (run_loadVar_row _ sr _ 64 _ _ _ (cells3 (.bool z.neg) (.int .u64 (z.hi : Int)) (.int .u64 (z.lo : Int)) HR5.out) Tryz.underlying64 rfl (by kernel_rfl))) rfl ?_
  exact ⟨by rw [G.out, HZ.out]; rfl, ((HK5.out.setCell_new (p := ⟨sr, 0, none⟩) (by show _ ≤ sr; have := HSR.out; omega) _).setCell_new (p := ⟨sr, 1, none⟩) (by show _ ≤ sr; have := HSR.out; omega) _).setCell_new (p := ⟨sr, 2, none⟩) (by show _ ≤ sr; have := HSR.out; omega) _⟩

set_option maxRecDepth 20000 in
set_option maxHeartbeats 8000000 in
theorem w_remU (x y : WI) (hx : x.fit) (hy : y.fit) (w : World) : Calls Tryz.prog 92 #[WV x, WV y] w fun r w' => r = .returned (.tuple #[WV (remW x y).1, iV (remW x y).2]) ∧ Keep (fun _ => False) w w' := by
  obtain ⟨w1, hw1, hb1, hb2, hb3, hs1, hk1⟩ := box3 w (WC x) (WC y) Z3 64 64 64
  have HK1 := hid hk1; have HA1 := hid hb1; have HB1 := hid hb2; have HR1 := hid hb3
  have HFX := hid hx; have HFY := hid hy
  clear hb1 hb2 hb3 hs1 hk1 hx hy
  go_enter Tryz.func92, Tryz.ntmps92
  go_upto_region 1 with fail
  rw [← hw1]
  clear hw1
  obtain ⟨sa, hsa⟩ : ∃ sa, w.heap.size = sa := ⟨_, rfl⟩
  obtain ⟨sb, hsb⟩ : ∃ sb, w.heap.size + 1 = sb := ⟨_, rfl⟩
  obtain ⟨sr, hsr⟩ : ∃ sr, w.heap.size + 1 + 1 = sr := ⟨_, rfl⟩
  have HSR : Hid (w.heap.size ≤ sr ∧ w.heap.size ≤ sa ∧ w.heap.size ≤ sb ∧ sa ≠ sr ∧ sb ≠ sr ∧ sa ≠ sb) := hid (by omega)
  rw [hsr] at HR1 ⊢
  rw [hsb] at HB1 ⊢
  rw [hsa] at HA1 ⊢
  clear hsa hsb hsr
  have a0 : w1.cell? ⟨sa, 0, none⟩ = some (.bool x.neg) := cell_of HA1.out (by rfl)
  have a1 : w1.cell? ⟨sa, 1, none⟩ = some (.int .u64 (x.hi : Int)) := cell_of HA1.out (by rfl)
  have a2 : w1.cell? ⟨sa, 2, none⟩ = some (.int .u64 (x.lo : Int)) := cell_of HA1.out (by rfl)
  have b0 : w1.cell? ⟨sb, 0, none⟩ = some (.bool y.neg) := cell_of HB1.out (by rfl)
  have b1 : w1.cell? ⟨sb, 1, none⟩ = some (.int .u64 (y.hi : Int)) := cell_of HB1.out (by rfl)
  have b2 : w1.cell? ⟨sb, 2, none⟩ = some (.int .u64 (y.lo : Int)) := cell_of HB1.out (by rfl)
  obtain ⟨bd, hbd⟩ : ∃ bd, badW x y true = bd := ⟨_, rfl⟩
  have HBD := hid hbd
  have HCK := hid (w_checkU x y true HFX.out HFY.out w1)
  rw [hbd] at HCK
  clear hbd
  go_wp2_with fail
  refine HCK.out.mono ?_
  rintro r w2 ⟨rfl, hk⟩
  have HK2 := hid (HK1.out.trans hk); have HA2 := hid (hk.get HA1.out id); have HB2 := hid (hk.get HB1.out id); have HR2 := hid (hk.get HR1.out id)
  clear hk HCK
  clear a0 a1 a2 b0 b1 b2
  cases bd
  rotate_left
  · as_aux_lemma =>
    have G : Hid (remW x y = (zW, 1)) := hid (if_pos HBD.out)
    have f0 := free_of HR2.out 0
    have f1 := free_of HR2.out 1
    have f2 := free_of HR2.out 2
    have c0 := cell_of HR2.out (i := 0) (by rfl)
    have c1 := cell_of HR2.out (i := 1) (by rfl)
    have c2 := cell_of HR2.out (i := 2) (by rfl)
    go_wp2
    (try simp only [Exit.inBlock, Exit.then])
    refine bodyPost_ret (results_ct rfl _ rfl (run_loadVar_row _ sr _ 64 _ _ _ (cells3 (.bool false) (.int .u64 0) (.int .u64 0) HR2.out) Tryz.underlying64 rfl (by kernel_rfl))) rfl ?_
    exact ⟨by rw [G.out]; rfl, ((HK2.out.setCell_new (p := ⟨sr, 0, none⟩) (by show _ ≤ sr; have := HSR.out; omega) _).setCell_new (p := ⟨sr, 1, none⟩) (by show _ ≤ sr; have := HSR.out; omega) _).setCell_new (p := ⟨sr, 2, none⟩) (by show _ ≤ sr; have := HSR.out; omega) _⟩
  have G : Hid (remW x y = (ofM (x.neg) (x.mag % y.mag), 0)) := hid (by unfold remW; rw [if_neg (by rw [HBD.out]; decide)])
  have HFO := hid (badD_no HBD.out)
  have a0 : w2.cell? ⟨sa, 0, none⟩ = some (.bool x.neg) := cell_of HA2.out (by rfl)
  have a1 : w2.cell? ⟨sa, 1, none⟩ = some (.int .u64 (x.hi : Int)) := cell_of HA2.out (by rfl)
  have a2 : w2.cell? ⟨sa, 2, none⟩ = some (.int .u64 (x.lo : Int)) := cell_of HA2.out (by rfl)
  have b0 : w2.cell? ⟨sb, 0, none⟩ = some (.bool y.neg) := cell_of HB2.out (by rfl)
  have b1 : w2.cell? ⟨sb, 1, none⟩ = some (.int .u64 (y.hi : Int)) := cell_of HB2.out (by rfl)
  have b2 : w2.cell? ⟨sb, 2, none⟩ = some (.int .u64 (y.lo : Int)) := cell_of HB2.out (by rfl)
  have HDV := hid (w_divide x y HFX.out HFY.out HFO.out.2.2 (mag_form HFY.out HFO.out.2.1) w2)
  have HMD : Hid (x.mag % y.mag < 340282366920938463463374607431768211456) := hid (Nat.lt_of_le_of_lt (by first | exact Nat.div_le_self _ _ | exact Nat.mod_le _ _) (mag_lt HFX.out))
  go_wp2_with fail
  refine HDV.out.mono ?_
  rintro r w3 ⟨rfl, hk⟩
  have HK3 := hid (HK2.out.trans hk); have HA3 := hid (hk.get HA2.out id); have HB3 := hid (hk.get HB2.out id); have HR3 := hid (hk.get HR2.out id)
  clear hk HDV
  clear a0 a1 a2 b0 b1 b2
  obtain ⟨U, hU⟩ : ∃ U, dW (x.mag / y.mag) = U := ⟨_, rfl⟩
  obtain ⟨V, hV⟩ : ∃ V, dW (x.mag % y.mag) = V := ⟨_, rfl⟩
  simp only [hU, hV]
  have HUV := hid (And.intro hU hV)
  clear hU hV
  obtain ⟨w4, hw4, hb1, hb2, hs4, hk4⟩ := box2 w3 (WC U) (WC V) 64 64
  have HK4 := hid (HK3.out.trans hk4); have HA4 := hid (hk4.get HA3.out id); have HB4 := hid (hk4.get HB3.out id); have HR4 := hid (hk4.get HR3.out id); have HU4 := hid hb1; have HV4 := hid hb2
  clear hb1 hb2 hs4 hk4
  go_upto_region 5 with fail
  rw [← hw4]
  clear hw4
  obtain ⟨su, hsu⟩ : ∃ s, w3.heap.size = s := ⟨_, rfl⟩
  obtain ⟨sv, hsv⟩ : ∃ s, w3.heap.size + 1 = s := ⟨_, rfl⟩
  rw [hsv] at HV4 ⊢
  rw [hsu] at HU4 ⊢
  clear hsu hsv
  have a0 : w4.cell? ⟨sa, 0, none⟩ = some (.bool x.neg) := cell_of HA4.out (by rfl)
  have a1 : w4.cell? ⟨sa, 1, none⟩ = some (.int .u64 (x.hi : Int)) := cell_of HA4.out (by rfl)
  have a2 : w4.cell? ⟨sa, 2, none⟩ = some (.int .u64 (x.lo : Int)) := cell_of HA4.out (by rfl)
  have b0 : w4.cell? ⟨sb, 0, none⟩ = some (.bool y.neg) := cell_of HB4.out (by rfl)
  have b1 : w4.cell? ⟨sb, 1, none⟩ = some (.int .u64 (y.hi : Int)) := cell_of HB4.out (by rfl)
  have b2 : w4.cell? ⟨sb, 2, none⟩ = some (.int .u64 (y.lo : Int)) := cell_of HB4.out (by rfl)
  have p0 : w4.cell? ⟨su, 0, none⟩ = some (.bool U.neg) := cell_of HU4.out (by rfl)
  have p1 : w4.cell? ⟨su, 1, none⟩ = some (.int .u64 (U.hi : Int)) := cell_of HU4.out (by rfl)
  have p2 : w4.cell? ⟨su, 2, none⟩ = some (.int .u64 (U.lo : Int)) := cell_of HU4.out (by rfl)
  have q0 : w4.cell? ⟨sv, 0, none⟩ = some (.bool V.neg) := cell_of HV4.out (by rfl)
  have q1 : w4.cell? ⟨sv, 1, none⟩ = some (.int .u64 (V.hi : Int)) := cell_of HV4.out (by rfl)
  have q2 : w4.cell? ⟨sv, 2, none⟩ = some (.int .u64 (V.lo : Int)) := cell_of HV4.out (by rfl)
  have HMM : Hid (Calls Tryz.prog 46 #[.bool (x.neg), .int .u64 (V.hi : Int), .int .u64 (V.lo : Int)] w4 fun r w' => r = .returned (WV (ofM (x.neg) (x.mag % y.mag))) ∧ Keep (fun _ => False) w4 w') := hid (by
    have := made_ofM (x.neg) (x.mag % y.mag) HMD.out w4
    rw [← HUV.out.2]
    exact this)
  go_wp2_with fail
  refine HMM.out.mono ?_
  rintro r w5 ⟨rfl, hk⟩
  have HK5 := hid (HK4.out.trans hk); have HR5 := hid (hk.get HR4.out id)
  clear hk HMM
  clear a0 a1 a2 b0 b1 b2 p0 p1 p2 q0 q1 q2
  obtain ⟨z, hz⟩ : ∃ z, ofM (x.neg) (x.mag % y.mag) = z := ⟨_, rfl⟩
  rw [hz]
  have HZ := hid hz
  clear hz
  have f0 := free_of HR5.out 0
  have f1 := free_of HR5.out 1
  have f2 := free_of HR5.out 2
  have c0 := cell_of HR5.out (i := 0) (by rfl)
  have c1 := cell_of HR5.out (i := 1) (by rfl)
  have c2 := cell_of HR5.out (i := 2) (by rfl)
  go_wp2
  (try simp only [Exit.inBlock, Exit.then])
  refine bodyPost_ret (results_ct rfl _ rfl (run_loadVar_row _ sr _ 64 _ _ _ (cells3 (.bool z.neg) (.int .u64 (z.hi : Int)) (.int .u64 (z.lo : Int)) HR5.out) Tryz.underlying64 rfl (by kernel_rfl))) rfl ?_
  exact ⟨by rw [G.out, HZ.out]; rfl, ((HK5.out.setCell_new (p := ⟨sr, 0, none⟩) (by show _ ≤ sr; have := HSR.out; omega) _).setCell_new (p := ⟨sr, 1, none⟩) (by show _ ≤ sr; have := HSR.out; omega) _).setCell_new (p := ⟨sr, 2, none⟩) (by show _ ≤ sr; have := HSR.out; omega) _⟩

end Go.Proofs.YtlhdofkgcbmnnaaGreatDoor

namespace Go.Proofs.YtlhdofkgcbmnnaaGreatDoor
open Go.RowKit Go.Proofs.Heap Go.Proofs.Wide

set_option maxRecDepth 20000 in
set_option maxHeartbeats 4000000 in
theorem b_mul64 (x y : Nat) (hx : x < 18446744073709551616) (hy : y < 18446744073709551616) (w : World) :
    Calls Tryz.prog 124 #[.int .u64 (x : Int), .int .u64 (y : Int)] w fun e w' => e = .returned (.tuple #[.int .u64 ((x * y / 18446744073709551616 : Nat) : Int), .int .u64 ((x * y % 18446744073709551616 : Nat) : Int)]) ∧ w = w' := by
  obtain ⟨bd, bt, bw, hhi⟩ := Lib.mul64_hi x y hx hy
  have ba := Lib.half_mul_le (a := x / 4294967296) (b := y / 4294967296) (by omega) (by omega)
  have bb := Lib.half_mul_le (a := x / 4294967296) (b := y % 4294967296) (by omega) (by omega)
  have bc := Lib.half_mul_le (a := x % 4294967296) (b := y / 4294967296) (by omega) (by omega)
  have ba' : x / 4294967296 * (y / 4294967296) < 18446744073709551616 := by omega
  have bb' : x / 4294967296 * (y % 4294967296) < 18446744073709551616 := by omega
  have bc' : x % 4294967296 * (y / 4294967296) < 18446744073709551616 := by omega
  have bh1 : x / 4294967296 * (y / 4294967296) + (x / 4294967296 * (y % 4294967296) + x % 4294967296 * (y % 4294967296) / 4294967296) / 4294967296 < 18446744073709551616 := by omega
  have bh : x / 4294967296 * (y / 4294967296) + (x / 4294967296 * (y % 4294967296) + x % 4294967296 * (y % 4294967296) / 4294967296) / 4294967296 + ((x / 4294967296 * (y % 4294967296) + x % 4294967296 * (y % 4294967296) / 4294967296) % 4294967296 + x % 4294967296 * (y / 4294967296)) / 4294967296 < 18446744073709551616 := by omega
  go_enter Tryz.func124, Tryz.ntmps124
  go_wp2
  simp only [Mul64.maskN x hx, Mul64.maskN y hy, Mul64.divN, Mul64.mulN, Mul64.addN, Mul64.wrapN _ bd, Mul64.wrapN _ bb', Mul64.wrapN _ bt, Mul64.maskN _ bt, Mul64.wrapN _ bc', Mul64.wrapN _ bw, Mul64.wrapN _ ba', Mul64.wrapN _ bh1, Mul64.wrapN _ bh, Mul64.wrapM (x * y)]
  rw [hhi]
  go_ret2
  exact ⟨rfl, rfl⟩
end Go.Proofs.YtlhdofkgcbmnnaaGreatDoor

namespace Go.Proofs.Wide
def mulW (x y : WI) : WI × Nat := if x.form = true ∧ y.form = true then fitW (x.neg != y.neg) (x.mag * y.mag) else (zW, 1)
theorem mulW_fit (x y : WI) : (mulW x y).1.fit := by
  unfold mulW
  split
  · exact fitW_fit _ _
  · exact zW_fit
theorem mag_ge {x : WI} (h : x.hi ≠ 0) : 18446744073709551616 ≤ x.mag := by unfold WI.mag; omega
theorem prod_eq (ah al bl : Nat) : (ah * 18446744073709551616 + al) * bl = ah * bl * 18446744073709551616 + al * bl := by
  rw [Nat.add_mul, Nat.mul_assoc, Nat.mul_comm 18446744073709551616 bl, ← Nat.mul_assoc]
end Go.Proofs.Wide
namespace Go.Proofs.YtlhdofkgcbmnnaaGreatDoor
open Go.RowKit Go.Proofs.Heap Go.Proofs.Wide

set_option maxRecDepth 20000 in
set_option maxHeartbeats 8000000 in
theorem w_mulU (x y : WI) (hx : x.fit) (hy : y.fit) (w : World) : Calls Tryz.prog 90 #[WV x, WV y] w fun r w' => r = .returned (.tuple #[WV (mulW x y).1, iV (mulW x y).2]) ∧ Keep (fun _ => False) w w' := by
  obtain ⟨w1, hw1, hb1, hb2, hb3, hs1, hk1⟩ := box3 w (WC x) (WC y) Z3 64 64 64
  have HK1 := hid hk1; have HA1 := hid hb1; have HB1 := hid hb2; have HR1 := hid hb3
  have HFX := hid hx; have HFY := hid hy
  clear hb1 hb2 hb3 hs1 hk1 hx hy
  go_enter Tryz.func90, Tryz.ntmps90
  go_upto_region 1 with fail
  rw [← hw1]
  clear hw1
  obtain ⟨sa, hsa⟩ : ∃ sa, w.heap.size = sa := ⟨_, rfl⟩
  obtain ⟨sb, hsb⟩ : ∃ sb, w.heap.size + 1 = sb := ⟨_, rfl⟩
  obtain ⟨sr, hsr⟩ : ∃ sr, w.heap.size + 1 + 1 = sr := ⟨_, rfl⟩
  have HSR : Hid (w.heap.size ≤ sr ∧ w.heap.size ≤ sa ∧ w.heap.size ≤ sb ∧ sa ≠ sr ∧ sb ≠ sr ∧ sa ≠ sb) := hid (by omega)
  rw [hsr] at HR1 ⊢
  rw [hsb] at HB1 ⊢
  rw [hsa] at HA1 ⊢
  clear hsa hsb hsr
  have a0 : w1.cell? ⟨sa, 0, none⟩ = some (.bool x.neg) := cell_of HA1.out (by rfl)
  have a1 : w1.cell? ⟨sa, 1, none⟩ = some (.int .u64 (x.hi : Int)) := cell_of HA1.out (by rfl)
  have a2 : w1.cell? ⟨sa, 2, none⟩ = some (.int .u64 (x.lo : Int)) := cell_of HA1.out (by rfl)
  have b0 : w1.cell? ⟨sb, 0, none⟩ = some (.bool y.neg) := cell_of HB1.out (by rfl)
  have b1 : w1.cell? ⟨sb, 1, none⟩ = some (.int .u64 (y.hi : Int)) := cell_of HB1.out (by rfl)
  have b2 : w1.cell? ⟨sb, 2, none⟩ = some (.int .u64 (y.lo : Int)) := cell_of HB1.out (by rfl)
  obtain ⟨bd, hbd⟩ : ∃ bd, badW x y false = bd := ⟨_, rfl⟩
  have HBD := hid hbd
  have HCK := hid (w_checkU x y false HFX.out HFY.out w1)
  rw [hbd] at HCK
  clear hbd
  go_wp2_with fail
  refine HCK.out.mono ?_
  rintro r w2 ⟨rfl, hk⟩
  have HK2 := hid (HK1.out.trans hk); have HA2 := hid (hk.get HA1.out id); have HB2 := hid (hk.get HB1.out id); have HR2 := hid (hk.get HR1.out id)
  clear hk HCK
  clear a0 a1 a2 b0 b1 b2
  cases bd
  rotate_left
  · as_aux_lemma =>
    have G : Hid (mulW x y = (zW, 1)) := hid (if_neg (badW_yes HBD.out))
    have f0 := free_of HR2.out 0
    have f1 := free_of HR2.out 1
    have f2 := free_of HR2.out 2
    have c0 := cell_of HR2.out (i := 0) (by rfl)
    have c1 := cell_of HR2.out (i := 1) (by rfl)
    have c2 := cell_of HR2.out (i := 2) (by rfl)
    go_wp2
    (try simp only [Exit.inBlock, Exit.then])
    refine bodyPost_ret (results_ct rfl _ rfl (run_loadVar_row _ sr _ 64 _ _ _ (cells3 (.bool false) (.int .u64 0) (.int .u64 0) HR2.out) Tryz.underlying64 rfl (by kernel_rfl))) rfl ?_
    exact ⟨by rw [G.out]; rfl, ((HK2.out.setCell_new (p := ⟨sr, 0, none⟩) (by show _ ≤ sr; have := HSR.out; omega) _).setCell_new (p := ⟨sr, 1, none⟩) (by show _ ≤ sr; have := HSR.out; omega) _).setCell_new (p := ⟨sr, 2, none⟩) (by show _ ≤ sr; have := HSR.out; omega) _⟩
  have HFO := hid (badW_no HBD.out)
  have HMW : Hid (mulW x y = fitW (x.neg != y.neg) (x.mag * y.mag)) := hid (if_pos HFO.out)
  have HBIG : Hid (∀ m, 340282366920938463463374607431768211456 ≤ m → fitW (x.neg != y.neg) m = (zW, 3)) := hid (fun m h => if_neg (by omega))
  have a0 : w2.cell? ⟨sa, 0, none⟩ = some (.bool x.neg) := cell_of HA2.out (by rfl)
  have a1 : w2.cell? ⟨sa, 1, none⟩ = some (.int .u64 (x.hi : Int)) := cell_of HA2.out (by rfl)
  have a2 : w2.cell? ⟨sa, 2, none⟩ = some (.int .u64 (x.lo : Int)) := cell_of HA2.out (by rfl)
  have b0 : w2.cell? ⟨sb, 0, none⟩ = some (.bool y.neg) := cell_of HB2.out (by rfl)
  have b1 : w2.cell? ⟨sb, 1, none⟩ = some (.int .u64 (y.hi : Int)) := cell_of HB2.out (by rfl)
  have b2 : w2.cell? ⟨sb, 2, none⟩ = some (.int .u64 (y.lo : Int)) := cell_of HB2.out (by rfl)
  by_cases hbig : x.hi ≠ 0 ∧ y.hi ≠ 0
  · as_aux_lemma =>
    have G : Hid (mulW x y = (zW, 3)) := hid (by
      rw [HMW.out]
      refine HBIG.out _ ?_
      have h1 := mag_ge hbig.1
      have h2 := mag_ge hbig.2
      exact Nat.le_trans (by omega : 340282366920938463463374607431768211456 ≤ 18446744073709551616 * 18446744073709551616) (Nat.mul_le_mul h1 h2))
    have g1 : ((x.hi : Int) != 0) = true := by rw [bne_iff_ne]; omega
    have g2 : ((y.hi : Int) != 0) = true := by rw [bne_iff_ne]; omega
    clear hbig
    have f0 := free_of HR2.out 0
    have f1 := free_of HR2.out 1
    have f2 := free_of HR2.out 2
    have c0 := cell_of HR2.out (i := 0) (by rfl)
    have c1 := cell_of HR2.out (i := 1) (by rfl)
    have c2 := cell_of HR2.out (i := 2) (by rfl)
    go_wp2
    (try simp only [Exit.inBlock, Exit.then])
    refine bodyPost_ret (results_ct rfl _ rfl (run_loadVar_row _ sr _ 64 _ _ _ (cells3 (.bool false) (.int .u64 0) (.int .u64 0) HR2.out) Tryz.underlying64 rfl (by kernel_rfl))) rfl ?_
    exact ⟨by rw [G.out]; rfl, ((HK2.out.setCell_new (p := ⟨sr, 0, none⟩) (by show _ ≤ sr; have := HSR.out; omega) _).setCell_new (p := ⟨sr, 1, none⟩) (by show _ ≤ sr; have := HSR.out; omega) _).setCell_new (p := ⟨sr, 2, none⟩) (by show _ ≤ sr; have := HSR.out; omega) _⟩
  have HNB := hid hbig
  clear hbig
  obtain ⟨bx, hbx⟩ : ∃ bx, ((x.hi : Int) != 0) = bx := ⟨_, rfl⟩
  obtain ⟨by_, hby⟩ : ∃ by_, ((y.hi : Int) != 0) = by_ := ⟨_, rfl⟩
  obtain ⟨be, hbe⟩ : ∃ be, ((x.hi : Int) == 0) = be := ⟨_, rfl⟩
  have HBX : Hid ((bx = true → by_ = false ∧ y.hi = 0 ∧ x.hi ≠ 0 ∧ be = false) ∧ (bx = false → x.hi = 0 ∧ be = true)) := hid (by
    have hnb := HNB.out
    rw [← hbx, ← hby, ← hbe]
    constructor
    · intro h
      rw [bne_iff_ne] at h
      have hx0 : x.hi ≠ 0 := by omega
      have hy0 : y.hi = 0 := by
        by_cases hy : y.hi = 0
        · exact hy
        · exact absurd ⟨hx0, hy⟩ hnb
      refine ⟨by rw [hy0]; rfl, hy0, hx0, by rw [beq_eq_false_iff_ne]; exact h⟩
    · intro h
      have h2 : x.hi = 0 := by
        by_cases hx : x.hi = 0
        · exact hx
        · exfalso
          have : ((x.hi : Int) != 0) = true := by rw [bne_iff_ne]; omega
          rw [this] at h; cases h
      exact ⟨h2, by rw [h2]; rfl⟩)
  clear HNB
  cases bx
  · obtain ⟨hx0, hbe1⟩ := HBX.out.2 rfl
    rw [hbe1] at hbe
    have HX0 := hid hx0
    clear hx0 hbe1 HBX
    have HAX := hid (cells3 (.bool y.neg) (.int .u64 (y.hi : Int)) (.int .u64 (y.lo : Int)) HA2.out)
    have HKX := hid ((((Keep.refl (fun g => g = sa) w2).setCell (p := ⟨sa, 0, none⟩) rfl (.bool y.neg)).setCell (p := ⟨sa, 1, none⟩) rfl (.int .u64 (y.hi : Int))).setCell (p := ⟨sa, 2, none⟩) rfl (.int .u64 (y.lo : Int)))
    have HBX2 := hid (HKX.out.get HB2.out (fun e => by have := HSR.out; omega)); have HRX := hid (HKX.out.get HR2.out (fun e => by have := HSR.out; omega))
    have HKW := hid (keep_new HK2.out HKX.out (fun g e => by have := HSR.out; omega))
    have hne1 : sa ≠ sb := HSR.out.2.2.2.2.2
    have hne2 : sb ≠ sa := fun e => hne1 e.symm
    have f0 := free_of HA2.out 0
    have f1 := free_of HA2.out 1
    have f2 := free_of HA2.out 2
    have e0 := free_of HB2.out 0
    have e1 := free_of HB2.out 1
    have e2 := free_of HB2.out 2
    go_upto_region 8 with fail
    clear f0 f1 f2 e0 e1 e2 a0 a1 a2 b0 b1 b2 hne1 hne2 hbe hby
    generalize ((w2.setCell ⟨sa, 0, none⟩ (.bool y.neg)).setCell ⟨sa, 1, none⟩ (.int .u64 (y.hi : Int))).setCell ⟨sa, 2, none⟩ (.int .u64 (y.lo : Int)) = w3 at *
    have HB4 := hid (cells3 (.bool x.neg) (.int .u64 (x.hi : Int)) (.int .u64 (x.lo : Int)) HBX2.out)
    have hky := ((((Keep.refl (fun g => g = sb) w3).setCell (p := ⟨sb, 0, none⟩) rfl (.bool x.neg)).setCell (p := ⟨sb, 1, none⟩) rfl (.int .u64 (x.hi : Int))).setCell (p := ⟨sb, 2, none⟩) rfl (.int .u64 (x.lo : Int)))
    have HA4 := hid (hky.get HAX.out (fun e => by have := HSR.out; omega)); have HR4 := hid (hky.get HRX.out (fun e => by have := HSR.out; omega))
    have HK4 := hid (keep_new HKW.out hky (fun g e => by have := HSR.out; omega))
    clear hky
    generalize ((w3.setCell ⟨sb, 0, none⟩ (.bool x.neg)).setCell ⟨sb, 1, none⟩ (.int .u64 (x.hi : Int))).setCell ⟨sb, 2, none⟩ (.int .u64 (x.lo : Int)) = w4 at *
    as_aux_lemma =>
    have a0 : w4.cell? ⟨sa, 0, none⟩ = some (.bool y.neg) := cell_of HA4.out (by rfl)
    have a1 : w4.cell? ⟨sa, 1, none⟩ = some (.int .u64 (y.hi : Int)) := cell_of HA4.out (by rfl)
    have a2 : w4.cell? ⟨sa, 2, none⟩ = some (.int .u64 (y.lo : Int)) := cell_of HA4.out (by rfl)
    have b0 : w4.cell? ⟨sb, 0, none⟩ = some (.bool x.neg) := cell_of HB4.out (by rfl)
    have b1 : w4.cell? ⟨sb, 1, none⟩ = some (.int .u64 (x.hi : Int)) := cell_of HB4.out (by rfl)
    have b2 : w4.cell? ⟨sb, 2, none⟩ = some (.int .u64 (x.lo : Int)) := cell_of HB4.out (by rfl)
    obtain ⟨p1, hp1⟩ : ∃ p, y.lo * x.lo = p := ⟨_, rfl⟩
    obtain ⟨p2, hp2⟩ : ∃ p, y.hi * x.lo = p := ⟨_, rfl⟩
    obtain ⟨h1, hh1⟩ : ∃ q, p1 / 18446744073709551616 = q := ⟨_, rfl⟩
    obtain ⟨lo, hlo⟩ : ∃ q, p1 % 18446744073709551616 = q := ⟨_, rfl⟩
    obtain ⟨ov, hov⟩ : ∃ q, p2 / 18446744073709551616 = q := ⟨_, rfl⟩
    obtain ⟨md, hmd⟩ : ∃ q, p2 % 18446744073709551616 = q := ⟨_, rfl⟩
    obtain ⟨sm, hsm⟩ : ∃ q, (h1 + md + 0) % 18446744073709551616 = q := ⟨_, rfl⟩
    obtain ⟨cy, hcy⟩ : ∃ q, (h1 + md + 0) / 18446744073709551616 = q := ⟨_, rfl⟩
    have m1 : Hid (∀ wz, Calls Tryz.prog 124 #[.int .u64 (y.lo : Int), .int .u64 (x.lo : Int)] wz fun e w' => e = .returned (.tuple #[.int .u64 (h1 : Int), .int .u64 (lo : Int)]) ∧ wz = w') := hid (fun wz => by
      have h := b_mul64 y.lo x.lo HFY.out.2 HFX.out.2 wz
      rwa [hp1, hh1, hlo] at h)
    have m2 : Hid (∀ wz, Calls Tryz.prog 124 #[.int .u64 (y.hi : Int), .int .u64 (x.lo : Int)] wz fun e w' => e = .returned (.tuple #[.int .u64 (ov : Int), .int .u64 (md : Int)]) ∧ wz = w') := hid (fun wz => by
      have h := b_mul64 y.hi x.lo HFY.out.1 HFX.out.2 wz
      rwa [hp2, hov, hmd] at h)
    have q1 : (callFunc 120 #[.int .u64 (h1 : Int), .int .u64 (md : Int), .int .u64 0]).run Tryz.prog w4 = .ok (.value (.tuple #[.int .u64 (sm : Int), .int .u64 (cy : Int)])) w4 := by
      have := ext_add64 h1 md 0 (by omega) w4
      rwa [hsm, hcy] at this
    have hpr : x.mag * y.mag = p2 * 18446744073709551616 + p1 := by
      have e : x.mag = x.lo := by unfold WI.mag; rw [HX0.out]; omega
      rw [Nat.mul_comm x.mag y.mag, e, ← hp1, ← hp2]
      exact prod_eq _ _ _
    have hpl1 : p1 < 340282366920938463463374607431768211456 := by
      rw [← hp1]
      exact Nat.lt_of_lt_of_le (Nat.mul_lt_mul'' HFY.out.2 HFX.out.2) (by omega)
    have hpl2 : p2 < 340282366920938463463374607431768211456 := by
      rw [← hp2]
      exact Nat.lt_of_lt_of_le (Nat.mul_lt_mul'' HFY.out.1 HFX.out.2) (by omega)
    obtain ⟨z, hz, hz0⟩ := or_zero ov cy (by omega) (by omega)
    have HM : Hid ((x.mag * y.mag = sm * 18446744073709551616 + lo ∧ z = 0) ∨ (340282366920938463463374607431768211456 ≤ x.mag * y.mag ∧ z ≠ 0)) := hid (by
      rw [hpr]
      by_cases hzz : z = 0
      · have := hz0.1 hzz
        exact .inl ⟨by omega, hzz⟩
      · refine .inr ⟨?_, hzz⟩
        by_cases h : ov = 0
        · have : cy ≠ 0 := fun h2 => hzz (hz0.2 ⟨h, h2⟩)
          omega
        · omega)
    have HL : Hid (sm < 18446744073709551616 ∧ lo < 18446744073709551616) := hid (by omega)
    clear hp1 hp2 hh1 hlo hov hmd hsm hcy hpr hz0 hpl1 hpl2
    go_wp2_with fail
    refine (m1.out w4).mono ?_
    rintro r w_ ⟨rfl, rfl⟩
    go_wp2_with fail
    refine (m2.out _).mono ?_
    rintro r w_ ⟨rfl, rfl⟩
    rcases HM.out with ⟨hm, hz1⟩ | ⟨hm, hz1⟩
    rotate_left
    · as_aux_lemma =>
      have G : Hid (mulW x y = (zW, 3)) := hid (by rw [HMW.out]; exact HBIG.out _ hm)
      have g1 : ((z : Int) != 0) = true := by rw [bne_iff_ne]; omega
      clear hz1 hm
      have f0 := free_of HR4.out 0
      have f1 := free_of HR4.out 1
      have f2 := free_of HR4.out 2
      have c0 := cell_of HR4.out (i := 0) (by rfl)
      have c1 := cell_of HR4.out (i := 1) (by rfl)
      have c2 := cell_of HR4.out (i := 2) (by rfl)
      go_wp2
      (try simp only [Exit.inBlock, Exit.then])
      refine bodyPost_ret (results_ct rfl _ rfl (run_loadVar_row _ sr _ 64 _ _ _ (cells3 (.bool false) (.int .u64 0) (.int .u64 0) HR4.out) Tryz.underlying64 rfl (by kernel_rfl))) rfl ?_
      exact ⟨by rw [G.out]; rfl, ((HK4.out.setCell_new (p := ⟨sr, 0, none⟩) (by show _ ≤ sr; have := HSR.out; omega) _).setCell_new (p := ⟨sr, 1, none⟩) (by show _ ≤ sr; have := HSR.out; omega) _).setCell_new (p := ⟨sr, 2, none⟩) (by show _ ≤ sr; have := HSR.out; omega) _⟩
    have g1 : ((z : Int) != 0) = false := by rw [hz1]; rfl
    have HMM := hid hm
    clear hm hz1
    go_wp2_with fail
    refine (w_fitU (y.neg != x.neg) sm lo (x.mag * y.mag) HL.out.1 HL.out.2 HMM.out.symm w4).mono ?_
    rintro r w5 ⟨rfl, hk⟩
    have HK5 := hid (HK4.out.trans hk); have HR5 := hid (hk.get HR4.out id)
    clear hk q1 g1 hz a0 a1 a2 b0 b1 b2
    obtain ⟨⟨z2, e⟩, hze⟩ : ∃ p, fitW (y.neg != x.neg) (x.mag * y.mag) = p := ⟨_, rfl⟩
    rw [hze]
    have HZE : Hid (mulW x y = (z2, e)) := hid (by rw [HMW.out, ← hze]; rw [bne_comm])
    clear hze
    have f0 := free_of HR5.out 0
    have f1 := free_of HR5.out 1
    have f2 := free_of HR5.out 2
    have c0 := cell_of HR5.out (i := 0) (by rfl)
    have c1 := cell_of HR5.out (i := 1) (by rfl)
    have c2 := cell_of HR5.out (i := 2) (by rfl)
    go_wp2
    (try simp only [Exit.inBlock, Exit.then])
    refine bodyPost_ret (results_ct rfl _ rfl (run_loadVar_row _ sr _ 64 _ _ _ (cells3 (.bool z2.neg) (.int .u64 (z2.hi : Int)) (.int .u64 (z2.lo : Int)) HR5.out) Tryz.underlying64 rfl (by kernel_rfl))) rfl ?_
    exact ⟨by rw [HZE.out]; rfl, ((HK5.out.setCell_new (p := ⟨sr, 0, none⟩) (by show _ ≤ sr; have := HSR.out; omega) _).setCell_new (p := ⟨sr, 1, none⟩) (by show _ ≤ sr; have := HSR.out; omega) _).setCell_new (p := ⟨sr, 2, none⟩) (by show _ ≤ sr; have := HSR.out; omega) _⟩
  · obtain ⟨hby1, hy0, hx0, hbe1⟩ := HBX.out.1 rfl
    rw [hbe1] at hbe
    rw [hby1] at hby
    have HX0 := hid hy0
    clear hx0 hy0 hbe1 hby1 HBX
    go_upto_region 8 with fail
    clear a0 a1 a2 b0 b1 b2 hbe hby hbx
    as_aux_lemma =>
    have a0 : w2.cell? ⟨sa, 0, none⟩ = some (.bool x.neg) := cell_of HA2.out (by rfl)
    have a1 : w2.cell? ⟨sa, 1, none⟩ = some (.int .u64 (x.hi : Int)) := cell_of HA2.out (by rfl)
    have a2 : w2.cell? ⟨sa, 2, none⟩ = some (.int .u64 (x.lo : Int)) := cell_of HA2.out (by rfl)
    have b0 : w2.cell? ⟨sb, 0, none⟩ = some (.bool y.neg) := cell_of HB2.out (by rfl)
    have b1 : w2.cell? ⟨sb, 1, none⟩ = some (.int .u64 (y.hi : Int)) := cell_of HB2.out (by rfl)
    have b2 : w2.cell? ⟨sb, 2, none⟩ = some (.int .u64 (y.lo : Int)) := cell_of HB2.out (by rfl)
    obtain ⟨p1, hp1⟩ : ∃ p, x.lo * y.lo = p := ⟨_, rfl⟩
    obtain ⟨p2, hp2⟩ : ∃ p, x.hi * y.lo = p := ⟨_, rfl⟩
    obtain ⟨h1, hh1⟩ : ∃ q, p1 / 18446744073709551616 = q := ⟨_, rfl⟩
    obtain ⟨lo, hlo⟩ : ∃ q, p1 % 18446744073709551616 = q := ⟨_, rfl⟩
    obtain ⟨ov, hov⟩ : ∃ q, p2 / 18446744073709551616 = q := ⟨_, rfl⟩
    obtain ⟨md, hmd⟩ : ∃ q, p2 % 18446744073709551616 = q := ⟨_, rfl⟩
    obtain ⟨sm, hsm⟩ : ∃ q, (h1 + md + 0) % 18446744073709551616 = q := ⟨_, rfl⟩
    obtain ⟨cy, hcy⟩ : ∃ q, (h1 + md + 0) / 18446744073709551616 = q := ⟨_, rfl⟩
    have m1 : Hid (∀ wz, Calls Tryz.prog 124 #[.int .u64 (x.lo : Int), .int .u64 (y.lo : Int)] wz fun e w' => e = .returned (.tuple #[.int .u64 (h1 : Int), .int .u64 (lo : Int)]) ∧ wz = w') := hid (fun wz => by
      have h := b_mul64 x.lo y.lo HFX.out.2 HFY.out.2 wz
      rwa [hp1, hh1, hlo] at h)
    have m2 : Hid (∀ wz, Calls Tryz.prog 124 #[.int .u64 (x.hi : Int), .int .u64 (y.lo : Int)] wz fun e w' => e = .returned (.tuple #[.int .u64 (ov : Int), .int .u64 (md : Int)]) ∧ wz = w') := hid (fun wz => by
      have h := b_mul64 x.hi y.lo HFX.out.1 HFY.out.2 wz
      rwa [hp2, hov, hmd] at h)
    have q1 : (callFunc 120 #[.int .u64 (h1 : Int), .int .u64 (md : Int), .int .u64 0]).run Tryz.prog w2 = .ok (.value (.tuple #[.int .u64 (sm : Int), .int .u64 (cy : Int)])) w2 := by
      have := ext_add64 h1 md 0 (by omega) w2
      rwa [hsm, hcy] at this
    have hpr : x.mag * y.mag = p2 * 18446744073709551616 + p1 := by
      have e : y.mag = y.lo := by unfold WI.mag; rw [HX0.out]; omega
      rw [e, ← hp1, ← hp2]
      exact prod_eq _ _ _
    have hpl1 : p1 < 340282366920938463463374607431768211456 := by
      rw [← hp1]
      exact Nat.lt_of_lt_of_le (Nat.mul_lt_mul'' HFX.out.2 HFY.out.2) (by omega)
    have hpl2 : p2 < 340282366920938463463374607431768211456 := by
      rw [← hp2]
      exact Nat.lt_of_lt_of_le (Nat.mul_lt_mul'' HFX.out.1 HFY.out.2) (by omega)
    obtain ⟨z, hz, hz0⟩ := or_zero ov cy (by omega) (by omega)
    have HM : Hid ((x.mag * y.mag = sm * 18446744073709551616 + lo ∧ z = 0) ∨ (340282366920938463463374607431768211456 ≤ x.mag * y.mag ∧ z ≠ 0)) := hid (by
      rw [hpr]
      by_cases hzz : z = 0
      · have := hz0.1 hzz
        exact .inl ⟨by omega, hzz⟩
      · refine .inr ⟨?_, hzz⟩
        by_cases h : ov = 0
        · have : cy ≠ 0 := fun h2 => hzz (hz0.2 ⟨h, h2⟩)
          omega
        · omega)
    have HL : Hid (sm < 18446744073709551616 ∧ lo < 18446744073709551616) := hid (by omega)
    clear hp1 hp2 hh1 hlo hov hmd hsm hcy hpr hz0 hpl1 hpl2
    go_wp2_with fail
    refine (m1.out w2).mono ?_
    rintro r w_ ⟨rfl, rfl⟩
    go_wp2_with fail
    refine (m2.out _).mono ?_
    rintro r w_ ⟨rfl, rfl⟩
    rcases HM.out with ⟨hm, hz1⟩ | ⟨hm, hz1⟩
    rotate_left
    · as_aux_lemma =>
      have G : Hid (mulW x y = (zW, 3)) := hid (by rw [HMW.out]; exact HBIG.out _ hm)
      have g1 : ((z : Int) != 0) = true := by rw [bne_iff_ne]; omega
      clear hz1 hm
      have f0 := free_of HR2.out 0
      have f1 := free_of HR2.out 1
      have f2 := free_of HR2.out 2
      have c0 := cell_of HR2.out (i := 0) (by rfl)
      have c1 := cell_of HR2.out (i := 1) (by rfl)
      have c2 := cell_of HR2.out (i := 2) (by rfl)
      go_wp2
      (try simp only [Exit.inBlock, Exit.then])
      refine bodyPost_ret (results_ct rfl _ rfl (run_loadVar_row _ sr _ 64 _ _ _ (cells3 (.bool false) (.int .u64 0) (.int .u64 0) HR2.out) Tryz.underlying64 rfl (by kernel_rfl))) rfl ?_
      exact ⟨by rw [G.out]; rfl, ((HK2.out.setCell_new (p := ⟨sr, 0, none⟩) (by show _ ≤ sr; have := HSR.out; omega) _).setCell_new (p := ⟨sr, 1, none⟩) (by show _ ≤ sr; have := HSR.out; omega) _).setCell_new (p := ⟨sr, 2, none⟩) (by show _ ≤ sr; have := HSR.out; omega) _⟩
    have g1 : ((z : Int) != 0) = false := by rw [hz1]; rfl
    have HMM := hid hm
    clear hm hz1
    go_wp2_with fail
    refine (w_fitU (x.neg != y.neg) sm lo (x.mag * y.mag) HL.out.1 HL.out.2 HMM.out.symm w2).mono ?_
    rintro r w5 ⟨rfl, hk⟩
    have HK5 := hid (HK2.out.trans hk); have HR5 := hid (hk.get HR2.out id)
    clear hk q1 g1 hz a0 a1 a2 b0 b1 b2
    obtain ⟨⟨z2, e⟩, hze⟩ : ∃ p, fitW (x.neg != y.neg) (x.mag * y.mag) = p := ⟨_, rfl⟩
    rw [hze]
    have HZE : Hid (mulW x y = (z2, e)) := hid (by rw [HMW.out, ← hze])
    clear hze
    have f0 := free_of HR5.out 0
    have f1 := free_of HR5.out 1
    have f2 := free_of HR5.out 2
    have c0 := cell_of HR5.out (i := 0) (by rfl)
    have c1 := cell_of HR5.out (i := 1) (by rfl)
    have c2 := cell_of HR5.out (i := 2) (by rfl)
    go_wp2
    (try simp only [Exit.inBlock, Exit.then])
    refine bodyPost_ret (results_ct rfl _ rfl (run_loadVar_row _ sr _ 64 _ _ _ (cells3 (.bool z2.neg) (.int .u64 (z2.hi : Int)) (.int .u64 (z2.lo : Int)) HR5.out) Tryz.underlying64 rfl (by kernel_rfl))) rfl ?_
    exact ⟨by rw [HZE.out]; rfl, ((HK5.out.setCell_new (p := ⟨sr, 0, none⟩) (by show _ ≤ sr; have := HSR.out; omega) _).setCell_new (p := ⟨sr, 1, none⟩) (by show _ ≤ sr; have := HSR.out; omega) _).setCell_new (p := ⟨sr, 2, none⟩) (by show _ ≤ sr; have := HSR.out; omega) _⟩
end Go.Proofs.YtlhdofkgcbmnnaaGreatDoor

namespace Go.Proofs.YtlhdofkgcbmnnaaGreatDoor
open Go.RowKit Go.Proofs.Heap Go.Proofs.Wide

set_option maxRecDepth 20000 in
theorem w_of_below (m : Nat) (h0 : 0 < m) (hm : m ≤ 9223372036854775808) (w : World) : Calls Tryz.prog 23 #[.int .i64 (-(m : Int))] w fun r w' => r = .returned (WV (ofM true m)) ∧ Keep (fun _ => False) w w' := by
  have hb := heap_alloc_new w (.cells Z3 64)
  have hk := (Keep.refl (fun _ => False) w).alloc (.cells Z3 64)
  have HB0 := hid hb; have HK0 := hid hk
  clear hb hk
  have HN : Hid (normW true 0 m = ofM true m) := hid (by rw [norm_of true (by omega), Nat.zero_mul, Nat.zero_add])
  have HM := hid (w_made true 0 m (by decide) (by omega))
  have e1 : IntKind.u64.wrap (-IntKind.u64.wrap (-(m : Int))) = (m : Int) := by
    have h1 := IntKind.wrap_u64 (-(m : Int))
    have h2 := IntKind.wrap_u64 (-IntKind.u64.wrap (-(m : Int)))
    omega
  go_enter Tryz.func23, Tryz.ntmps23
  go_upto_region 1 with fail
  generalize w.alloc (.cells Z3 64) = w0 at *
  generalize hsb : w.heap.size = sb at *
  have g1 : decide (-(m : Int) < 0) = true := decide_eq_true (by omega)
  go_wp2_with fail
  refine (HM.out _).mono ?_
  rw [HN.out]
  rintro r w1 ⟨rfl, hk1⟩
  have HK := hid (HK0.out.trans hk1)
  have HB := hid (hk1.get HB0.out (fun h => h))
  clear hk1
  have c0 := cell_of HB.out (i := 0) (by rfl)
  have c1 := cell_of HB.out (i := 1) (by rfl)
  have c2 := cell_of HB.out (i := 2) (by rfl)
  have f0 := free_of HB.out 0
  have f1 := free_of HB.out 1
  have f2 := free_of HB.out 2
  obtain ⟨z, hz⟩ : ∃ z, ofM true m = z := ⟨_, rfl⟩
  rw [hz]
  have HZ := hid hz
  clear hz
  go_wp2
  (try simp only [Exit.inBlock, Exit.then])
  refine bodyPost_ret (results_c rfl _ rfl (run_loadVar_row _ sb _ 64 _ _ _ (cells3 (.bool z.neg) (.int .u64 (z.hi : Int)) (.int .u64 (z.lo : Int)) HB.out) Tryz.underlying64 rfl (by kernel_rfl))) rfl ?_
  exact ⟨by rw [HZ.out], ((HK.out.setCell_new (p := ⟨sb, 0, none⟩) (by show _ ≤ sb; omega) _).setCell_new (p := ⟨sb, 1, none⟩) (by show _ ≤ sb; omega) _).setCell_new (p := ⟨sb, 2, none⟩) (by show _ ≤ sb; omega) _⟩
theorem w_ofU (x : Int) (h1 : -9223372036854775808 ≤ x) (h2 : x < 9223372036854775808) (w : World) : Calls Tryz.prog 23 #[.int .i64 x] w fun r w' => r = .returned (WV (ofM (decide (x < 0)) x.natAbs)) ∧ Keep (fun _ => False) w w' := by
  by_cases h : x < 0
  · rw [decide_eq_true h]
    have := w_of_below x.natAbs (by omega) (by omega) w
    rwa [show -(x.natAbs : Int) = x by omega] at this
  · rw [decide_eq_false h]
    have := w_of x.natAbs (by omega) w
    rw [show (x.natAbs : Int) = x by omega] at this
    rwa [show ofM false x.natAbs = ⟨false, 0, x.natAbs⟩ by unfold ofM; rw [Nat.div_eq_of_lt (by omega), Nat.mod_eq_of_lt (by omega)]; rfl]
end Go.Proofs.YtlhdofkgcbmnnaaGreatDoor

namespace Go.Proofs.Wide
theorem WI.ext_iff' (a b : WI) : (a.neg = b.neg ∧ a.hi = b.hi ∧ a.lo = b.lo) ↔ a = b := by cases a; cases b; simp
instance : DecidableEq WI := fun a b => decidable_of_iff _ (WI.ext_iff' a b)
end Go.Proofs.Wide
namespace Go.Proofs.YtlhdofkgcbmnnaaGreatDoor
open Go.RowKit Go.Proofs.Heap Go.Proofs.Sch Go.Proofs.Wide

/-- 1 or 0. -/
def truthW (b : Bool) : WI := if b = true then ofM false 1 else zW
/-- What an instruction makes of the numbers that it takes; its error. -/
def opW (op : Int) (x y z : WI) : WI × Nat :=
  if op = 5 then addW x y else if op = 6 then subW x y else if op = 7 then mulW x y else if op = 8 then quoW x y else if op = 9 then remW x y
  else if op = 10 then (if x.form = true then (negW x, 0) else (zW, 1))
  else if op = 11 then (if x.form = true ∧ y.form = true then (if cmpW x y ≤ 0 then x else y, 0) else (zW, 1))
  else if op = 12 then (if x.form = true ∧ y.form = true then (if 0 ≤ cmpW x y then x else y, 0) else (zW, 1))
  else if op = 13 then (if x.form = true ∧ y.form = true then (truthW (decide (x = y)), 0) else (zW, 1))
  else if op = 14 then (if x.form = true ∧ y.form = true then (truthW (decide (cmpW x y < 0)), 0) else (zW, 1))
  else if op = 15 then (if x.form = true then (truthW (decide (sgnW x = 0)), 0) else (zW, 1))
  else if op = 16 then (if x.form = true then (if sgnW x = 0 then z else y, 0) else (zW, 1))
  else (if y.form = true then (if sgnW y = 0 then (zW, 9) else (x, 0)) else (zW, 1))
/-- An element of a row of rows of numbers. -/
def elemW (fs : List (List WI)) (a b : Int) : WI × Nat :=
  if 0 ≤ a ∧ 0 ≤ b then (match (fs.getD a.toNat [])[b.toNat]? with | some x => (x, 0) | none => (zW, 3)) else (zW, 3)
/-- What an instruction puts that takes nothing; its error. -/
def leafW (fs : List (List WI)) (pl : Int) (x : Ins) : WI × Nat :=
  if x.op = 2 then elemW fs x.a x.b else if x.op = 3 then elemW fs x.a pl else if x.op = 4 then (if pl < 0 then (zW, 3) else (ofM false pl.toNat, 0)) else (x.k, 0)
/-- What an instruction puts, over the numbers that it takes; its error. -/
def insW (fs : List (List WI)) (pl : Int) (x : Ins) (l : List WI) : WI × Nat :=
  if argsN x.op = 0 then leafW fs pl x else opW x.op (l.getD 0 zW) (l.getD 1 zW) (l.getD 2 zW)
/-- The numbers that are there at the end; the error. -/
def runW (fs : List (List WI)) (pl : Int) : List WI → List Ins → List WI × Nat
  | st, [] => (st, 0)
  | st, x :: r => if (insW fs pl x (st.drop (st.length - argsN x.op))).2 = 0 then runW fs pl (st.take (st.length - argsN x.op) ++ [(insW fs pl x (st.drop (st.length - argsN x.op))).1]) r else ([], (insW fs pl x (st.drop (st.length - argsN x.op))).2)
/-- What a formula comes to; its error. -/
def evalW (fs : List (List WI)) (pl : Int) (code : List Ins) : WI × Nat :=
  if exprC code ≠ 0 then (zW, exprC code)
  else if (runW fs pl [] code).2 ≠ 0 then (zW, (runW fs pl [] code).2)
  else if ((runW fs pl [] code).1.getD 0 zW).form = true then ((runW fs pl [] code).1.getD 0 zW, 0) else (zW, 4)

theorem runW_cons (fs : List (List WI)) (pl : Int) (st : List WI) (x : Ins) (r : List Ins) : runW fs pl st (x :: r) = if (insW fs pl x (st.drop (st.length - argsN x.op))).2 = 0 then runW fs pl (st.take (st.length - argsN x.op) ++ [(insW fs pl x (st.drop (st.length - argsN x.op))).1]) r else ([], (insW fs pl x (st.drop (st.length - argsN x.op))).2) := rfl
theorem exprRun_step {n : Nat} {x : Ins} {r : List Ins} (h : exprRun n (x :: r) = 0) : insB x = true ∧ argsN x.op ≤ n ∧ n - argsN x.op + 1 ≤ 16 ∧ exprRun (n - argsN x.op + 1) r = 0 := by
  rw [exprRun_cons] at h
  split at h
  · omega
  next h1 =>
  split at h
  · omega
  next h2 =>
  simp only [not_or, Bool.not_eq_false] at h1
  exact ⟨h1.1, by omega, by omega, h⟩
theorem exprRun_end {n : Nat} (h : exprRun n [] = 0) : n = 1 := by
  unfold exprRun at h
  split at h
  · assumption
  · omega
theorem exprRun_app : ∀ {l r : List Ins} {n : Nat}, exprRun n l = 0 → exprRun n (l ++ r) = exprRun 1 r := by
  intro l
  induction l with
  | nil => intro r n h; rw [exprRun_end h]; rfl
  | cons x l ih =>
    intro r n h
    obtain ⟨h1, h2, h3, h4⟩ := exprRun_step h
    rw [List.cons_append, exprRun_cons, if_neg (by rw [h1]; simp; omega), if_neg (by omega)]
    exact ih h4
theorem exprC_run {code : List Ins} (h : exprC code = 0) : code.length ≤ 64 ∧ exprRun 0 code = 0 := by
  unfold exprC at h
  split at h
  · omega
  · exact ⟨by omega, h⟩
theorem runW_app (fs : List (List WI)) (pl : Int) (r : List Ins) : ∀ (l : List Ins) (st : List WI), runW fs pl st (l ++ r) = if (runW fs pl st l).2 = 0 then runW fs pl (runW fs pl st l).1 r else ([], (runW fs pl st l).2) := by
  intro l
  induction l with
  | nil => intro st; rfl
  | cons x l ih =>
    intro st
    rw [List.cons_append, runW_cons, runW_cons]
    split
    · exact ih _
    · rfl
/-- Behind numbers that are there already a formula does the same. -/
theorem runW_front (fs : List (List WI)) (pl : Int) (s0 : List WI) : ∀ (l : List Ins) (st : List WI), exprRun st.length l = 0 → runW fs pl (s0 ++ st) l = (if (runW fs pl st l).2 = 0 then s0 ++ (runW fs pl st l).1 else [], (runW fs pl st l).2) ∧ ((runW fs pl st l).2 = 0 → (runW fs pl st l).1.length = 1) := by
  intro l
  induction l with
  | nil => intro st h; exact ⟨rfl, fun _ => exprRun_end h⟩
  | cons x l ih =>
    intro st h
    obtain ⟨h1, h2, h3, h4⟩ := exprRun_step h
    have e1 : (s0 ++ st).length - argsN x.op = s0.length + (st.length - argsN x.op) := by rw [List.length_append]; omega
    have e2 : (s0 ++ st).drop (s0.length + (st.length - argsN x.op)) = st.drop (st.length - argsN x.op) := by rw [List.drop_append, List.drop_eq_nil_of_le (by omega)]; simp
    have e3 : (s0 ++ st).take (s0.length + (st.length - argsN x.op)) = s0 ++ st.take (st.length - argsN x.op) := by rw [List.take_append, List.take_of_length_le (by omega)]; simp
    rw [runW_cons, runW_cons, e1, e2, e3]
    split
    next hq =>
      have := ih (st.take (st.length - argsN x.op) ++ [(insW fs pl x (st.drop (st.length - argsN x.op))).1]) (by rw [List.length_append, List.length_take]; simpa [Nat.min_eq_left (Nat.sub_le st.length (argsN x.op))] using h4)
      rw [← List.append_assoc] at this
      exact this
    next hq =>
      exact ⟨rfl, fun h => absurd h hq⟩
/-- What an instruction of two makes of formulas' numbers. -/
theorem opW_form {op : Int} {x y z : WI} (h5 : 5 ≤ op ∧ op ≤ 9) (hx : x.fit) (h : (opW op x y z).2 = 0) : (opW op x y z).1.form = true ∧ x.form = true ∧ y.form = true := by
  have hfit : ∀ ng m, (fitW ng m).2 = 0 → (fitW ng m).1.form = true := by
    intro ng m h
    unfold fitW at h ⊢
    split
    next hm => exact ofM_form ng hm
    next hm => rw [if_neg hm] at h; simp at h
  have hadd : ∀ {x y : WI}, (addW x y).2 = 0 → (addW x y).1.form = true ∧ x.form = true ∧ y.form = true := by
    intro x y h
    unfold addW at h ⊢
    split
    next hf =>
      rw [if_pos hf] at h
      refine ⟨?_, hf.1, hf.2⟩
      split
      next h1 => rw [if_pos h1] at h; exact hfit _ _ h
      next h1 =>
        rw [if_neg h1] at h
        split
        next h2 => rw [if_pos h2] at h; exact hfit _ _ h
        next h2 => rw [if_neg h2] at h; exact hfit _ _ h
    next hf => rw [if_neg hf] at h; simp at h
  have hmf : ∀ {x : WI}, x.fit → x.form = true → x.mag < 170141183460469231731687303715884105728 := fun h h2 => mag_form h h2
  unfold opW at h ⊢
  rcases (show op = 5 ∨ op = 6 ∨ op = 7 ∨ op = 8 ∨ op = 9 by omega) with rfl | rfl | rfl | rfl | rfl
  · simp at h ⊢
    exact hadd h
  · simp at h ⊢
    unfold subW at h ⊢
    split
    next hf => rw [if_pos hf] at h; exact ⟨(hadd h).1, hf⟩
    next hf => rw [if_neg hf] at h; simp at h
  · simp at h ⊢
    unfold mulW at h ⊢
    split
    next hf => rw [if_pos hf] at h; exact ⟨hfit _ _ h, hf⟩
    next hf => rw [if_neg hf] at h; simp at h
  · simp at h ⊢
    unfold quoW at h ⊢
    split
    next hb => rw [if_pos hb] at h; simp at h
    next hb =>
      have hb' := badD_no (Bool.eq_false_iff.2 hb)
      exact ⟨ofM_form _ (Nat.lt_of_le_of_lt (Nat.div_le_self _ _) (hmf hx hb'.1)), hb'.1, hb'.2.1⟩
  · simp at h ⊢
    unfold remW at h ⊢
    split
    next hb => rw [if_pos hb] at h; simp at h
    next hb =>
      have hb' := badD_no (Bool.eq_false_iff.2 hb)
      exact ⟨ofM_form _ (Nat.lt_of_le_of_lt (Nat.mod_le _ _) (hmf hx hb'.1)), hb'.1, hb'.2.1⟩
theorem opW_zero {op : Int} {x y z : WI} (h5 : 5 ≤ op ∧ op ≤ 9) (h : (opW op x y z).2 ≠ 0) : (opW op x y z).1 = zW := by
  have hfit : ∀ ng m, (fitW ng m).2 ≠ 0 → (fitW ng m).1 = zW := by
    intro ng m h
    unfold fitW at h ⊢
    split
    next hm => rw [if_pos hm] at h; simp at h
    next hm => rfl
  have hadd : ∀ {x y : WI}, (addW x y).2 ≠ 0 → (addW x y).1 = zW := by
    intro x y h
    unfold addW at h ⊢
    split
    next hf =>
      rw [if_pos hf] at h
      split
      next h1 => rw [if_pos h1] at h; exact hfit _ _ h
      next h1 =>
        rw [if_neg h1] at h
        split
        next h2 => rw [if_pos h2] at h; exact hfit _ _ h
        next h2 => rw [if_neg h2] at h; exact hfit _ _ h
    next hf => rfl
  unfold opW at h ⊢
  rcases (show op = 5 ∨ op = 6 ∨ op = 7 ∨ op = 8 ∨ op = 9 by omega) with rfl | rfl | rfl | rfl | rfl
  · simp at h ⊢
    exact hadd h
  · simp at h ⊢
    unfold subW at h ⊢
    split
    next hf => rw [if_pos hf] at h; exact hadd h
    next hf => rfl
  · simp at h ⊢
    unfold mulW at h ⊢
    split
    next hf => rw [if_pos hf] at h; exact hfit _ _ h
    next hf => rfl
  · simp at h ⊢
    unfold quoW at h ⊢
    split
    next hb => rfl
    next hb => rw [if_neg hb] at h; simp at h
  · simp at h ⊢
    unfold remW at h ⊢
    split
    next hb => rfl
    next hb => rw [if_neg hb] at h; simp at h
end Go.Proofs.YtlhdofkgcbmnnaaGreatDoor
