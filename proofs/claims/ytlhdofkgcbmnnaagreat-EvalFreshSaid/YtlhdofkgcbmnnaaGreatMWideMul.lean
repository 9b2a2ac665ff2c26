/- What is proved: what Mul of the great numbers answers, whatever it is handed. -/
import Derived.Test.YtlhdofkgcbmnnaaGreatMWideU
import Derived.Test.YtlhdofkgcbmnnaaGreatMWideDiv
import Derived.Test.YtlhdofkgcbmnnaaGreatMMapStr
import Derived.Test.YtlhdofkgcbmnnaaGreatMHeap
namespace Go.Proofs.Wide
def mulW (x y : WI) : WI × Nat := if x.form = true ∧ y.form = true then fitW (x.neg != y.neg) (x.mag * y.mag) else (zW, 1)
theorem mulW_fit (x y : WI) : (mulW x y).1.fit := by
  unfold mulW
  split
  · exact fitW_fit _ _
  · exact zW_fit
theorem mag_ge {x : WI} (h : x.hi ≠ 0) : 18446744073709551616 ≤ x.mag := by unfold WI.mag; omega
theorem prod_eq (ah al bl : Nat) : (ah * 18446744073709551616 + al) * bl = ah * bl * 18446744073709551616 + al * bl := by
  rw [Nat.add_mul, Nat.mul_assoc, Nat.mul_comm 18446744073709551616 bl, ← Nat.mul_assoc]
end Go.Proofs.Wide
namespace Go.Proofs.YtlhdofkgcbmnnaaGreat
open Go.RowKit Go.Proofs.Heap Go.Proofs.Wide

set_option maxRecDepth 20000 in
set_option maxHeartbeats 8000000 in
theorem w_mulU (x y : WI) (hx : x.fit) (hy : y.fit) (w : World) : Calls Tryz.prog 149 #[WV x, WV y] w fun r w' => r = .returned (.tuple #[WV (mulW x y).1, iV (mulW x y).2]) ∧ Keep (fun _ => False) w w' := by
  obtain ⟨w1, hw1, hb1, hb2, hb3, hs1, hk1⟩ := box3 w (WC x) (WC y) Z3 86 86 86
  have HK1 := hid hk1; have HA1 := hid hb1; have HB1 := hid hb2; have HR1 := hid hb3
  have HFX := hid hx; have HFY := hid hy
  clear hb1 hb2 hb3 hs1 hk1 hx hy
  go_enter Tryz.func149, Tryz.ntmps149
  go_upto_region 1 with fail
  rw [← hw1]
  clear hw1
  obtain ⟨sa, hsa⟩ : ∃ sa, w.heap.size = sa := ⟨_, rfl⟩
  obtain ⟨sb, hsb⟩ : ∃ sb, w.heap.size + 1 = sb := ⟨_, rfl⟩
  obtain ⟨sr, hsr⟩ : ∃ sr, w.heap.size + 1 + 1 = sr := ⟨_, rfl⟩
  have HSR : Hid (w.heap.size ≤ sr ∧ w.heap.size ≤ sa ∧ w.heap.size ≤ sb ∧ sa ≠ sr ∧ sb ≠ sr ∧ sa ≠ sb) := hid (by omega)
  rw [hsr] at HR1 ⊢
  rw [hsb] at HB1 ⊢
  rw [hsa] at HA1 ⊢
  clear hsa hsb hsr
  have a0 : w1.cell? ⟨sa, 0, none⟩ = some (.bool x.neg) := cell_of HA1.out (by rfl)
  have a1 : w1.cell? ⟨sa, 1, none⟩ = some (.int .u64 (x.hi : Int)) := cell_of HA1.out (by rfl)
  have a2 : w1.cell? ⟨sa, 2, none⟩ = some (.int .u64 (x.lo : Int)) := cell_of HA1.out (by rfl)
  have b0 : w1.cell? ⟨sb, 0, none⟩ = some (.bool y.neg) := cell_of HB1.out (by rfl)
  have b1 : w1.cell? ⟨sb, 1, none⟩ = some (.int .u64 (y.hi : Int)) := cell_of HB1.out (by rfl)
  have b2 : w1.cell? ⟨sb, 2, none⟩ = some (.int .u64 (y.lo : Int)) := cell_of HB1.out (by rfl)
  obtain ⟨bd, hbd⟩ : ∃ bd, badW x y false = bd := ⟨_, rfl⟩
  have HBD := hid hbd
  have HCK := hid (w_checkU x y false HFX.out HFY.out w1)
  rw [hbd] at HCK
  clear hbd
  go_wp2_with fail
  refine HCK.out.mono ?_
  rintro r w2 ⟨rfl, hk⟩
  have HK2 := hid (HK1.out.trans hk); have HA2 := hid (hk.get HA1.out id); have HB2 := hid (hk.get HB1.out id); have HR2 := hid (hk.get HR1.out id)
  clear hk HCK
  clear a0 a1 a2 b0 b1 b2
  cases bd
  rotate_left
  · as_aux_lemma =>
    have G : Hid (mulW x y = (zW, 1)) := hid (if_neg (badW_yes HBD.out))
    have f0 := free_of HR2.out 0
    have f1 := free_of HR2.out 1
    have f2 := free_of HR2.out 2
    have c0 := cell_of HR2.out (i := 0) (by rfl)
    have c1 := cell_of HR2.out (i := 1) (by rfl)
    have c2 := cell_of HR2.out (i := 2) (by rfl)
    go_wp2
    (try simp only [Exit.inBlock, Exit.then])
    refine bodyPost_ret (results_ct rfl _ rfl (run_loadVar_row _ sr _ 86 _ _ _ (cells3 (.bool false) (.int .u64 0) (.int .u64 0) HR2.out) Tryz.underlying86 rfl (by kernel_rfl))) rfl ?_
    exact ⟨by rw [G.out]; rfl, ((HK2.out.setCell_new (p := ⟨sr, 0, none⟩) (by show _ ≤ sr; have := HSR.out; omega) _).setCell_new (p := ⟨sr, 1, none⟩) (by show _ ≤ sr; have := HSR.out; omega) _).setCell_new (p := ⟨sr, 2, none⟩) (by show _ ≤ sr; have := HSR.out; omega) _⟩
  have HFO := hid (badW_no HBD.out)
  have HMW : Hid (mulW x y = fitW (x.neg != y.neg) (x.mag * y.mag)) := hid (if_pos HFO.out)
  have HBIG : Hid (∀ m, 340282366920938463463374607431768211456 ≤ m → fitW (x.neg != y.neg) m = (zW, 3)) := hid (fun m h => if_neg (by omega))
  have a0 : w2.cell? ⟨sa, 0, none⟩ = some (.bool x.neg) := cell_of HA2.out (by rfl)
  have a1 : w2.cell? ⟨sa, 1, none⟩ = some (.int .u64 (x.hi : Int)) := cell_of HA2.out (by rfl)
  have a2 : w2.cell? ⟨sa, 2, none⟩ = some (.int .u64 (x.lo : Int)) := cell_of HA2.out (by rfl)
  have b0 : w2.cell? ⟨sb, 0, none⟩ = some (.bool y.neg) := cell_of HB2.out (by rfl)
  have b1 : w2.cell? ⟨sb, 1, none⟩ = some (.int .u64 (y.hi : Int)) := cell_of HB2.out (by rfl)
  have b2 : w2.cell? ⟨sb, 2, none⟩ = some (.int .u64 (y.lo : Int)) := cell_of HB2.out (by rfl)
  by_cases hbig : x.hi ≠ 0 ∧ y.hi ≠ 0
  · as_aux_lemma =>
    have G : Hid (mulW x y = (zW, 3)) := hid (by
      rw [HMW.out]
      refine HBIG.out _ ?_
      have h1 := mag_ge hbig.1
      have h2 := mag_ge hbig.2
      exact Nat.le_trans (by omega : 340282366920938463463374607431768211456 ≤ 18446744073709551616 * 18446744073709551616) (Nat.mul_le_mul h1 h2))
    have g1 : ((x.hi : Int) != 0) = true := by rw [bne_iff_ne]; omega
    have g2 : ((y.hi : Int) != 0) = true := by rw [bne_iff_ne]; omega
    clear hbig
    have f0 := free_of HR2.out 0
    have f1 := free_of HR2.out 1
    have f2 := free_of HR2.out 2
    have c0 := cell_of HR2.out (i := 0) (by rfl)
    have c1 := cell_of HR2.out (i := 1) (by rfl)
    have c2 := cell_of HR2.out (i := 2) (by rfl)
    go_wp2
    (try simp only [Exit.inBlock, Exit.then])
    refine bodyPost_ret (results_ct rfl _ rfl (run_loadVar_row _ sr _ 86 _ _ _ (cells3 (.bool false) (.int .u64 0) (.int .u64 0) HR2.out) Tryz.underlying86 rfl (by kernel_rfl))) rfl ?_
    exact ⟨by rw [G.out]; rfl, ((HK2.out.setCell_new (p := ⟨sr, 0, none⟩) (by show _ ≤ sr; have := HSR.out; omega) _).setCell_new (p := ⟨sr, 1, none⟩) (by show _ ≤ sr; have := HSR.out; omega) _).setCell_new (p := ⟨sr, 2, none⟩) (by show _ ≤ sr; have := HSR.out; omega) _⟩
  have HNB := hid hbig
  clear hbig
  obtain ⟨bx, hbx⟩ : ∃ bx, ((x.hi : Int) != 0) = bx := ⟨_, rfl⟩
  obtain ⟨by_, hby⟩ : ∃ by_, ((y.hi : Int) != 0) = by_ := ⟨_, rfl⟩
  obtain ⟨be, hbe⟩ : ∃ be, ((x.hi : Int) == 0) = be := ⟨_, rfl⟩
  have HBX : Hid ((bx = true → by_ = false ∧ y.hi = 0 ∧ x.hi ≠ 0 ∧ be = false) ∧ (bx = false → x.hi = 0 ∧ be = true)) := hid (by
    have hnb := HNB.out
    rw [← hbx, ← hby, ← hbe]
    constructor
    · intro h
      rw [bne_iff_ne] at h
      have hx0 : x.hi ≠ 0 := by omega
      have hy0 : y.hi = 0 := by
        by_cases hy : y.hi = 0
        · exact hy
        · exact absurd ⟨hx0, hy⟩ hnb
      refine ⟨by rw [hy0]; rfl, hy0, hx0, by rw [beq_eq_false_iff_ne]; exact h⟩
    · intro h
      have h2 : x.hi = 0 := by
        by_cases hx : x.hi = 0
        · exact hx
        · exfalso
          have : ((x.hi : Int) != 0) = true := by rw [bne_iff_ne]; omega
          rw [this] at h; cases h
      exact ⟨h2, by rw [h2]; rfl⟩)
  clear HNB
  cases bx
  · obtain ⟨hx0, hbe1⟩ := HBX.out.2 rfl
    rw [hbe1] at hbe
    have HX0 := hid hx0
    clear hx0 hbe1 HBX
    have HAX := hid (cells3 (.bool y.neg) (.int .u64 (y.hi : Int)) (.int .u64 (y.lo : Int)) HA2.out)
    have HKX := hid ((((Keep.refl (fun g => g = sa) w2).setCell (p := ⟨sa, 0, none⟩) rfl (.bool y.neg)).setCell (p := ⟨sa, 1, none⟩) rfl (.int .u64 (y.hi : Int))).setCell (p := ⟨sa, 2, none⟩) rfl (.int .u64 (y.lo : Int)))
    have HBX2 := hid (HKX.out.get HB2.out (fun e => by have := HSR.out; omega)); have HRX := hid (HKX.out.get HR2.out (fun e => by have := HSR.out; omega))
    have HKW := hid (keep_new HK2.out HKX.out (fun g e => by have := HSR.out; omega))
    have hne1 : sa ≠ sb := HSR.out.2.2.2.2.2
    have hne2 : sb ≠ sa := fun e => hne1 e.symm
    have f0 := free_of HA2.out 0
    have f1 := free_of HA2.out 1
    have f2 := free_of HA2.out 2
    have e0 := free_of HB2.out 0
    have e1 := free_of HB2.out 1
    have e2 := free_of HB2.out 2
    go_upto_region 8 with fail
    clear f0 f1 f2 e0 e1 e2 a0 a1 a2 b0 b1 b2 hne1 hne2 hbe hby
    generalize ((w2.setCell ⟨sa, 0, none⟩ (.bool y.neg)).setCell ⟨sa, 1, none⟩ (.int .u64 (y.hi : Int))).setCell ⟨sa, 2, none⟩ (.int .u64 (y.lo : Int)) = w3 at *
    have HB4 := hid (cells3 (.bool x.neg) (.int .u64 (x.hi : Int)) (.int .u64 (x.lo : Int)) HBX2.out)
    have hky := ((((Keep.refl (fun g => g = sb) w3).setCell (p := ⟨sb, 0, none⟩) rfl (.bool x.neg)).setCell (p := ⟨sb, 1, none⟩) rfl (.int .u64 (x.hi : Int))).setCell (p := ⟨sb, 2, none⟩) rfl (.int .u64 (x.lo : Int)))
    have HA4 := hid (hky.get HAX.out (fun e => by have := HSR.out; omega)); have HR4 := hid (hky.get HRX.out (fun e => by have := HSR.out; omega))
    have HK4 := hid (keep_new HKW.out hky (fun g e => by have := HSR.out; omega))
    clear hky
    generalize ((w3.setCell ⟨sb, 0, none⟩ (.bool x.neg)).setCell ⟨sb, 1, none⟩ (.int .u64 (x.hi : Int))).setCell ⟨sb, 2, none⟩ (.int .u64 (x.lo : Int)) = w4 at *
    as_aux_lemma =>
    have a0 : w4.cell? ⟨sa, 0, none⟩ = some (.bool y.neg) := cell_of HA4.out (by rfl)
    have a1 : w4.cell? ⟨sa, 1, none⟩ = some (.int .u64 (y.hi : Int)) := cell_of HA4.out (by rfl)
    have a2 : w4.cell? ⟨sa, 2, none⟩ = some (.int .u64 (y.lo : Int)) := cell_of HA4.out (by rfl)
    have b0 : w4.cell? ⟨sb, 0, none⟩ = some (.bool x.neg) := cell_of HB4.out (by rfl)
    have b1 : w4.cell? ⟨sb, 1, none⟩ = some (.int .u64 (x.hi : Int)) := cell_of HB4.out (by rfl)
    have b2 : w4.cell? ⟨sb, 2, none⟩ = some (.int .u64 (x.lo : Int)) := cell_of HB4.out (by rfl)
    obtain ⟨p1, hp1⟩ : ∃ p, y.lo * x.lo = p := ⟨_, rfl⟩
    obtain ⟨p2, hp2⟩ : ∃ p, y.hi * x.lo = p := ⟨_, rfl⟩
    obtain ⟨h1, hh1⟩ : ∃ q, p1 / 18446744073709551616 = q := ⟨_, rfl⟩
    obtain ⟨lo, hlo⟩ : ∃ q, p1 % 18446744073709551616 = q := ⟨_, rfl⟩
    obtain ⟨ov, hov⟩ : ∃ q, p2 / 18446744073709551616 = q := ⟨_, rfl⟩
    obtain ⟨md, hmd⟩ : ∃ q, p2 % 18446744073709551616 = q := ⟨_, rfl⟩
    obtain ⟨sm, hsm⟩ : ∃ q, (h1 + md + 0) % 18446744073709551616 = q := ⟨_, rfl⟩
    obtain ⟨cy, hcy⟩ : ∃ q, (h1 + md + 0) / 18446744073709551616 = q := ⟨_, rfl⟩
    have m1 : Hid (∀ wz, Calls Tryz.prog 176 #[.int .u64 (y.lo : Int), .int .u64 (x.lo : Int)] wz fun e w' => e = .returned (.tuple #[.int .u64 (h1 : Int), .int .u64 (lo : Int)]) ∧ wz = w') := hid (fun wz => by
      have h := b_mul64 y.lo x.lo HFY.out.2 HFX.out.2 wz
      rwa [hp1, hh1, hlo] at h)
    have m2 : Hid (∀ wz, Calls Tryz.prog 176 #[.int .u64 (y.hi : Int), .int .u64 (x.lo : Int)] wz fun e w' => e = .returned (.tuple #[.int .u64 (ov : Int), .int .u64 (md : Int)]) ∧ wz = w') := hid (fun wz => by
      have h := b_mul64 y.hi x.lo HFY.out.1 HFX.out.2 wz
      rwa [hp2, hov, hmd] at h)
    have q1 : (callFunc 183 #[.int .u64 (h1 : Int), .int .u64 (md : Int), .int .u64 0]).run Tryz.prog w4 = .ok (.value (.tuple #[.int .u64 (sm : Int), .int .u64 (cy : Int)])) w4 := by
      have := ext_add64 h1 md 0 (by omega) w4
      rwa [hsm, hcy] at this
    have hpr : x.mag * y.mag = p2 * 18446744073709551616 + p1 := by
      have e : x.mag = x.lo := by unfold WI.mag; rw [HX0.out]; omega
      rw [Nat.mul_comm x.mag y.mag, e, ← hp1, ← hp2]
      exact prod_eq _ _ _
    have hpl1 : p1 < 340282366920938463463374607431768211456 := by
      rw [← hp1]
      exact Nat.lt_of_lt_of_le (Nat.mul_lt_mul'' HFY.out.2 HFX.out.2) (by omega)
    have hpl2 : p2 < 340282366920938463463374607431768211456 := by
      rw [← hp2]
      exact Nat.lt_of_lt_of_le (Nat.mul_lt_mul'' HFY.out.1 HFX.out.2) (by omega)
    obtain ⟨z, hz, hz0⟩ := or_zero ov cy (by omega) (by omega)
    have HM : Hid ((x.mag * y.mag = sm * 18446744073709551616 + lo ∧ z = 0) ∨ (340282366920938463463374607431768211456 ≤ x.mag * y.mag ∧ z ≠ 0)) := hid (by
      rw [hpr]
      by_cases hzz : z = 0
      · have := hz0.1 hzz
        exact .inl ⟨by omega, hzz⟩
      · refine .inr ⟨?_, hzz⟩
        by_cases h : ov = 0
        · have : cy ≠ 0 := fun h2 => hzz (hz0.2 ⟨h, h2⟩)
          omega
        · omega)
    have HL : Hid (sm < 18446744073709551616 ∧ lo < 18446744073709551616) := hid (by omega)
    clear hp1 hp2 hh1 hlo hov hmd hsm hcy hpr hz0 hpl1 hpl2
    go_wp2_with fail
    refine (m1.out w4).mono ?_
    rintro r w_ ⟨rfl, rfl⟩
    go_wp2_with fail
    refine (m2.out _).mono ?_
    rintro r w_ ⟨rfl, rfl⟩
    rcases HM.out with ⟨hm, hz1⟩ | ⟨hm, hz1⟩
    rotate_left
    · as_aux_lemma =>
      have G : Hid (mulW x y = (zW, 3)) := hid (by rw [HMW.out]; exact HBIG.out _ hm)
      have g1 : ((z : Int) != 0) = true := by rw [bne_iff_ne]; omega
      clear hz1 hm
      have f0 := free_of HR4.out 0
      have f1 := free_of HR4.out 1
      have f2 := free_of HR4.out 2
      have c0 := cell_of HR4.out (i := 0) (by rfl)
      have c1 := cell_of HR4.out (i := 1) (by rfl)
      have c2 := cell_of HR4.out (i := 2) (by rfl)
      go_wp2
      (try simp only [Exit.inBlock, Exit.then])
      refine bodyPost_ret (results_ct rfl _ rfl (run_loadVar_row _ sr _ 86 _ _ _ (cells3 (.bool false) (.int .u64 0) (.int .u64 0) HR4.out) Tryz.underlying86 rfl (by kernel_rfl))) rfl ?_
      exact ⟨by rw [G.out]; rfl, ((HK4.out.setCell_new (p := ⟨sr, 0, none⟩) (by show _ ≤ sr; have := HSR.out; omega) _).setCell_new (p := ⟨sr, 1, none⟩) (by show _ ≤ sr; have := HSR.out; omega) _).setCell_new (p := ⟨sr, 2, none⟩) (by show _ ≤ sr; have := HSR.out; omega) _⟩
    have g1 : ((z : Int) != 0) = false := by rw [hz1]; rfl
    have HMM := hid hm
    clear hm hz1
    go_wp2_with fail
    refine (w_fitU (y.neg != x.neg) sm lo (x.mag * y.mag) HL.out.1 HL.out.2 HMM.out.symm w4).mono ?_
    rintro r w5 ⟨rfl, hk⟩
    have HK5 := hid (HK4.out.trans hk); have HR5 := hid (hk.get HR4.out id)
    clear hk q1 g1 hz a0 a1 a2 b0 b1 b2
    obtain ⟨⟨z2, e⟩, hze⟩ : ∃ p, fitW (y.neg != x.neg) (x.mag * y.mag) = p := ⟨_, rfl⟩
    rw [hze]
    have HZE : Hid (mulW x y = (z2, e)) := hid (by rw [HMW.out, ← hze]; rw [bne_comm])
    clear hze
    have f0 := free_of HR5.out 0
    have f1 := free_of HR5.out 1
    have f2 := free_of HR5.out 2
    have c0 := cell_of HR5.out (i := 0) (by rfl)
    have c1 := cell_of HR5.out (i := 1) (by rfl)
    have c2 := cell_of HR5.out (i := 2) (by rfl)
    go_wp2
    (try simp only [Exit.inBlock, Exit.then])
    refine bodyPost_ret (results_ct rfl _ rfl (run_loadVar_row _ sr _ 86 _ _ _ (cells3 (.bool z2.neg) (.int .u64 (z2.hi : Int)) (.int .u64 (z2.lo : Int)) HR5.out) Tryz.underlying86 rfl (by kernel_rfl))) rfl ?_
    exact ⟨by rw [HZE.out]; rfl, ((HK5.out.setCell_new (p := ⟨sr, 0, none⟩) (by show _ ≤ sr; have := HSR.out; omega) _).setCell_new (p := ⟨sr, 1, none⟩) (by show _ ≤ sr; have := HSR.out; omega) _).setCell_new (p := ⟨sr, 2, none⟩) (by show _ ≤ sr; have := HSR.out; omega) _⟩
  · obtain ⟨hby1, hy0, hx0, hbe1⟩ := HBX.out.1 rfl
    rw [hbe1] at hbe
    rw [hby1] at hby
    have HX0 := hid hy0
    clear hx0 hy0 hbe1 hby1 HBX
    go_upto_region 8 with fail
    clear a0 a1 a2 b0 b1 b2 hbe hby hbx
    as_aux_lemma =>
    have a0 : w2.cell? ⟨sa, 0, none⟩ = some (.bool x.neg) := cell_of HA2.out (by rfl)
    have a1 : w2.cell? ⟨sa, 1, none⟩ = some (.int .u64 (x.hi : Int)) := cell_of HA2.out (by rfl)
    have a2 : w2.cell? ⟨sa, 2, none⟩ = some (.int .u64 (x.lo : Int)) := cell_of HA2.out (by rfl)
    have b0 : w2.cell? ⟨sb, 0, none⟩ = some (.bool y.neg) := cell_of HB2.out (by rfl)
    have b1 : w2.cell? ⟨sb, 1, none⟩ = some (.int .u64 (y.hi : Int)) := cell_of HB2.out (by rfl)
    have b2 : w2.cell? ⟨sb, 2, none⟩ = some (.int .u64 (y.lo : Int)) := cell_of HB2.out (by rfl)
    obtain ⟨p1, hp1⟩ : ∃ p, x.lo * y.lo = p := ⟨_, rfl⟩
    obtain ⟨p2, hp2⟩ : ∃ p, x.hi * y.lo = p := ⟨_, rfl⟩
    obtain ⟨h1, hh1⟩ : ∃ q, p1 / 18446744073709551616 = q := ⟨_, rfl⟩
    obtain ⟨lo, hlo⟩ : ∃ q, p1 % 18446744073709551616 = q := ⟨_, rfl⟩
    obtain ⟨ov, hov⟩ : ∃ q, p2 / 18446744073709551616 = q := ⟨_, rfl⟩
    obtain ⟨md, hmd⟩ : ∃ q, p2 % 18446744073709551616 = q := ⟨_, rfl⟩
    obtain ⟨sm, hsm⟩ : ∃ q, (h1 + md + 0) % 18446744073709551616 = q := ⟨_, rfl⟩
    obtain ⟨cy, hcy⟩ : ∃ q, (h1 + md + 0) / 18446744073709551616 = q := ⟨_, rfl⟩
    have m1 : Hid (∀ wz, Calls Tryz.prog 176 #[.int .u64 (x.lo : Int), .int .u64 (y.lo : Int)] wz fun e w' => e = .returned (.tuple #[.int .u64 (h1 : Int), .int .u64 (lo : Int)]) ∧ wz = w') := hid (fun wz => by
      have h := b_mul64 x.lo y.lo HFX.out.2 HFY.out.2 wz
      rwa [hp1, hh1, hlo] at h)
    have m2 : Hid (∀ wz, Calls Tryz.prog 176 #[.int .u64 (x.hi : Int), .int .u64 (y.lo : Int)] wz fun e w' => e = .returned (.tuple #[.int .u64 (ov : Int), .int .u64 (md : Int)]) ∧ wz = w') := hid (fun wz => by
      have h := b_mul64 x.hi y.lo HFX.out.1 HFY.out.2 wz
      rwa [hp2, hov, hmd] at h)
    have q1 : (callFunc 183 #[.int .u64 (h1 : Int), .int .u64 (md : Int), .int .u64 0]).run Tryz.prog w2 = .ok (.value (.tuple #[.int .u64 (sm : Int), .int .u64 (cy : Int)])) w2 := by
      have := ext_add64 h1 md 0 (by omega) w2
      rwa [hsm, hcy] at this
    have hpr : x.mag * y.mag = p2 * 18446744073709551616 + p1 := by
      have e : y.mag = y.lo := by unfold WI.mag; rw [HX0.out]; omega
      rw [e, ← hp1, ← hp2]
      exact prod_eq _ _ _
    have hpl1 : p1 < 340282366920938463463374607431768211456 := by
      rw [← hp1]
      exact Nat.lt_of_lt_of_le (Nat.mul_lt_mul'' HFX.out.2 HFY.out.2) (by omega)
    have hpl2 : p2 < 340282366920938463463374607431768211456 := by
      rw [← hp2]
      exact Nat.lt_of_lt_of_le (Nat.mul_lt_mul'' HFX.out.1 HFY.out.2) (by omega)
    obtain ⟨z, hz, hz0⟩ := or_zero ov cy (by omega) (by omega)
    have HM : Hid ((x.mag * y.mag = sm * 18446744073709551616 + lo ∧ z = 0) ∨ (340282366920938463463374607431768211456 ≤ x.mag * y.mag ∧ z ≠ 0)) := hid (by
      rw [hpr]
      by_cases hzz : z = 0
      · have := hz0.1 hzz
        exact .inl ⟨by omega, hzz⟩
      · refine .inr ⟨?_, hzz⟩
        by_cases h : ov = 0
        · have : cy ≠ 0 := fun h2 => hzz (hz0.2 ⟨h, h2⟩)
          omega
        · omega)
    have HL : Hid (sm < 18446744073709551616 ∧ lo < 18446744073709551616) := hid (by omega)
    clear hp1 hp2 hh1 hlo hov hmd hsm hcy hpr hz0 hpl1 hpl2
    go_wp2_with fail
    refine (m1.out w2).mono ?_
    rintro r w_ ⟨rfl, rfl⟩
    go_wp2_with fail
    refine (m2.out _).mono ?_
    rintro r w_ ⟨rfl, rfl⟩
    rcases HM.out with ⟨hm, hz1⟩ | ⟨hm, hz1⟩
    rotate_left
    · as_aux_lemma =>
      have G : Hid (mulW x y = (zW, 3)) := hid (by rw [HMW.out]; exact HBIG.out _ hm)
      have g1 : ((z : Int) != 0) = true := by rw [bne_iff_ne]; omega
      clear hz1 hm
      have f0 := free_of HR2.out 0
      have f1 := free_of HR2.out 1
      have f2 := free_of HR2.out 2
      have c0 := cell_of HR2.out (i := 0) (by rfl)
      have c1 := cell_of HR2.out (i := 1) (by rfl)
      have c2 := cell_of HR2.out (i := 2) (by rfl)
      go_wp2
      (try simp only [Exit.inBlock, Exit.then])
      refine bodyPost_ret (results_ct rfl _ rfl (run_loadVar_row _ sr _ 86 _ _ _ (cells3 (.bool false) (.int .u64 0) (.int .u64 0) HR2.out) Tryz.underlying86 rfl (by kernel_rfl))) rfl ?_
      exact ⟨by rw [G.out]; rfl, ((HK2.out.setCell_new (p := ⟨sr, 0, none⟩) (by show _ ≤ sr; have := HSR.out; omega) _).setCell_new (p := ⟨sr, 1, none⟩) (by show _ ≤ sr; have := HSR.out; omega) _).setCell_new (p := ⟨sr, 2, none⟩) (by show _ ≤ sr; have := HSR.out; omega) _⟩
    have g1 : ((z : Int) != 0) = false := by rw [hz1]; rfl
    have HMM := hid hm
    clear hm hz1
    go_wp2_with fail
    refine (w_fitU (x.neg != y.neg) sm lo (x.mag * y.mag) HL.out.1 HL.out.2 HMM.out.symm w2).mono ?_
    rintro r w5 ⟨rfl, hk⟩
    have HK5 := hid (HK2.out.trans hk); have HR5 := hid (hk.get HR2.out id)
    clear hk q1 g1 hz a0 a1 a2 b0 b1 b2
    obtain ⟨⟨z2, e⟩, hze⟩ : ∃ p, fitW (x.neg != y.neg) (x.mag * y.mag) = p := ⟨_, rfl⟩
    rw [hze]
    have HZE : Hid (mulW x y = (z2, e)) := hid (by rw [HMW.out, ← hze])
    clear hze
    have f0 := free_of HR5.out 0
    have f1 := free_of HR5.out 1
    have f2 := free_of HR5.out 2
    have c0 := cell_of HR5.out (i := 0) (by rfl)
    have c1 := cell_of HR5.out (i := 1) (by rfl)
    have c2 := cell_of HR5.out (i := 2) (by rfl)
    go_wp2
    (try simp only [Exit.inBlock, Exit.then])
    refine bodyPost_ret (results_ct rfl _ rfl (run_loadVar_row _ sr _ 86 _ _ _ (cells3 (.bool z2.neg) (.int .u64 (z2.hi : Int)) (.int .u64 (z2.lo : Int)) HR5.out) Tryz.underlying86 rfl (by kernel_rfl))) rfl ?_
    exact ⟨by rw [HZE.out]; rfl, ((HK5.out.setCell_new (p := ⟨sr, 0, none⟩) (by show _ ≤ sr; have := HSR.out; omega) _).setCell_new (p := ⟨sr, 1, none⟩) (by show _ ≤ sr; have := HSR.out; omega) _).setCell_new (p := ⟨sr, 2, none⟩) (by show _ ≤ sr; have := HSR.out; omega) _⟩
end Go.Proofs.YtlhdofkgcbmnnaaGreat

namespace Go.Proofs.YtlhdofkgcbmnnaaGreat
open Go.RowKit Go.Proofs.Heap Go.Proofs.Wide

set_option maxRecDepth 20000 in
theorem w_of_below (m : Nat) (h0 : 0 < m) (hm : m ≤ 9223372036854775808) (w : World) : Calls Tryz.prog 31 #[.int .i64 (-(m : Int))] w fun r w' => r = .returned (WV (ofM true m)) ∧ Keep (fun _ => False) w w' := by
  have hb := heap_alloc_new w (.cells Z3 86)
  have hk := (Keep.refl (fun _ => False) w).alloc (.cells Z3 86)
  have HB0 := hid hb; have HK0 := hid hk
  clear hb hk
  have HN : Hid (normW true 0 m = ofM true m) := hid (by rw [norm_of true (by omega), Nat.zero_mul, Nat.zero_add])
  have HM := hid (w_made true 0 m (by decide) (by omega))
  have e1 : IntKind.u64.wrap (-IntKind.u64.wrap (-(m : Int))) = (m : Int) := by
    have h1 := IntKind.wrap_u64 (-(m : Int))
    have h2 := IntKind.wrap_u64 (-IntKind.u64.wrap (-(m : Int)))
    omega
  go_enter Tryz.func31, Tryz.ntmps31
  go_upto_region 1 with fail
  generalize w.alloc (.cells Z3 86) = w0 at *
  generalize hsb : w.heap.size = sb at *
  have g1 : decide (-(m : Int) < 0) = true := decide_eq_true (by omega)
  go_wp2_with fail
  refine (HM.out _).mono ?_
  rw [HN.out]
  rintro r w1 ⟨rfl, hk1⟩
  have HK := hid (HK0.out.trans hk1)
  have HB := hid (hk1.get HB0.out (fun h => h))
  clear hk1
  have c0 := cell_of HB.out (i := 0) (by rfl)
  have c1 := cell_of HB.out (i := 1) (by rfl)
  have c2 := cell_of HB.out (i := 2) (by rfl)
  have f0 := free_of HB.out 0
  have f1 := free_of HB.out 1
  have f2 := free_of HB.out 2
  obtain ⟨z, hz⟩ : ∃ z, ofM true m = z := ⟨_, rfl⟩
  rw [hz]
  have HZ := hid hz
  clear hz
  go_wp2
  (try simp only [Exit.inBlock, Exit.then])
  refine bodyPost_ret (results_c rfl _ rfl (run_loadVar_row _ sb _ 86 _ _ _ (cells3 (.bool z.neg) (.int .u64 (z.hi : Int)) (.int .u64 (z.lo : Int)) HB.out) Tryz.underlying86 rfl (by kernel_rfl))) rfl ?_
  exact ⟨by rw [HZ.out], ((HK.out.setCell_new (p := ⟨sb, 0, none⟩) (by show _ ≤ sb; omega) _).setCell_new (p := ⟨sb, 1, none⟩) (by show _ ≤ sb; omega) _).setCell_new (p := ⟨sb, 2, none⟩) (by show _ ≤ sb; omega) _⟩
theorem w_ofU (x : Int) (h1 : -9223372036854775808 ≤ x) (h2 : x < 9223372036854775808) (w : World) : Calls Tryz.prog 31 #[.int .i64 x] w fun r w' => r = .returned (WV (ofM (decide (x < 0)) x.natAbs)) ∧ Keep (fun _ => False) w w' := by
  by_cases h : x < 0
  · rw [decide_eq_true h]
    have := w_of_below x.natAbs (by omega) (by omega) w
    rwa [show -(x.natAbs : Int) = x by omega] at this
  · rw [decide_eq_false h]
    have := w_of x.natAbs (by omega) w
    rw [show (x.natAbs : Int) = x by omega] at this
    rwa [show ofM false x.natAbs = ⟨false, 0, x.natAbs⟩ by unfold ofM; rw [Nat.div_eq_of_lt (by omega), Nat.mod_eq_of_lt (by omega)]; rfl]
end Go.Proofs.YtlhdofkgcbmnnaaGreat

namespace Go.Proofs.Wide
theorem WI.ext_iff' (a b : WI) : (a.neg = b.neg ∧ a.hi = b.hi ∧ a.lo = b.lo) ↔ a = b := by cases a; cases b; simp
instance : DecidableEq WI := fun a b => decidable_of_iff _ (WI.ext_iff' a b)
end Go.Proofs.Wide
namespace Go.Proofs.YtlhdofkgcbmnnaaGreat
open Go.RowKit Go.Proofs.Heap Go.Proofs.Sch Go.Proofs.Wide

/-- 1 or 0. -/
def truthW (b : Bool) : WI := if b = true then ofM false 1 else zW
/-- What an instruction makes of the numbers that it takes; its error. -/
def opW (op : Int) (x y z : WI) : WI × Nat :=
  if op = 5 then addW x y else if op = 6 then subW x y else if op = 7 then mulW x y else if op = 8 then quoW x y else if op = 9 then remW x y
  else if op = 10 then (if x.form = true then (negW x, 0) else (zW, 1))
  else if op = 11 then (if x.form = true ∧ y.form = true then (if cmpW x y ≤ 0 then x else y, 0) else (zW, 1))
  else if op = 12 then (if x.form = true ∧ y.form = true then (if 0 ≤ cmpW x y then x else y, 0) else (zW, 1))
  else if op = 13 then (if x.form = true ∧ y.form = true then (truthW (decide (x = y)), 0) else (zW, 1))
  else if op = 14 then (if x.form = true ∧ y.form = true then (truthW (decide (cmpW x y < 0)), 0) else (zW, 1))
  else if op = 15 then (if x.form = true then (truthW (decide (sgnW x = 0)), 0) else (zW, 1))
  else if op = 16 then (if x.form = true then (if sgnW x = 0 then z else y, 0) else (zW, 1))
  else (if y.form = true then (if sgnW y = 0 then (zW, 9) else (x, 0)) else (zW, 1))
/-- An element of a row of rows of numbers. -/
def elemW (fs : List (List WI)) (a b : Int) : WI × Nat :=
  if 0 ≤ a ∧ 0 ≤ b then (match (fs.getD a.toNat [])[b.toNat]? with | some x => (x, 0) | none => (zW, 3)) else (zW, 3)
/-- What an instruction puts that takes nothing; its error. -/
def leafW (fs : List (List WI)) (pl : Int) (x : Ins) : WI × Nat :=
  if x.op = 2 then elemW fs x.a x.b else if x.op = 3 then elemW fs x.a pl else if x.op = 4 then (if pl < 0 then (zW, 3) else (ofM false pl.toNat, 0)) else (x.k, 0)
/-- What an instruction puts, over the numbers that it takes; its error. -/
def insW (fs : List (List WI)) (pl : Int) (x : Ins) (l : List WI) : WI × Nat :=
  if argsN x.op = 0 then leafW fs pl x else opW x.op (l.getD 0 zW) (l.getD 1 zW) (l.getD 2 zW)
/-- The numbers that are there at the end; the error. -/
def runW (fs : List (List WI)) (pl : Int) : List WI → List Ins → List WI × Nat
  | st, [] => (st, 0)
  | st, x :: r => if (insW fs pl x (st.drop (st.length - argsN x.op))).2 = 0 then runW fs pl (st.take (st.length - argsN x.op) ++ [(insW fs pl x (st.drop (st.length - argsN x.op))).1]) r else ([], (insW fs pl x (st.drop (st.length - argsN x.op))).2)
/-- What a formula comes to; its error. -/
def evalW (fs : List (List WI)) (pl : Int) (code : List Ins) : WI × Nat :=
  if exprC code ≠ 0 then (zW, exprC code)
  else if (runW fs pl [] code).2 ≠ 0 then (zW, (runW fs pl [] code).2)
  else if ((runW fs pl [] code).1.getD 0 zW).form = true then ((runW fs pl [] code).1.getD 0 zW, 0) else (zW, 4)

theorem runW_cons (fs : List (List WI)) (pl : Int) (st : List WI) (x : Ins) (r : List Ins) : runW fs pl st (x :: r) = if (insW fs pl x (st.drop (st.length - argsN x.op))).2 = 0 then runW fs pl (st.take (st.length - argsN x.op) ++ [(insW fs pl x (st.drop (st.length - argsN x.op))).1]) r else ([], (insW fs pl x (st.drop (st.length - argsN x.op))).2) := rfl
theorem exprRun_step {n : Nat} {x : Ins} {r : List Ins} (h : exprRun n (x :: r) = 0) : insB x = true ∧ argsN x.op ≤ n ∧ n - argsN x.op + 1 ≤ 16 ∧ exprRun (n - argsN x.op + 1) r = 0 := by
  rw [exprRun_cons] at h
  split at h
  · omega
  next h1 =>
  split at h
  · omega
  next h2 =>
  simp only [not_or, Bool.not_eq_false] at h1
  exact ⟨h1.1, by omega, by omega, h⟩
theorem exprRun_end {n : Nat} (h : exprRun n [] = 0) : n = 1 := by
  unfold exprRun at h
  split at h
  · assumption
  · omega
theorem exprRun_app : ∀ {l r : List Ins} {n : Nat}, exprRun n l = 0 → exprRun n (l ++ r) = exprRun 1 r := by
  intro l
  induction l with
  | nil => intro r n h; rw [exprRun_end h]; rfl
  | cons x l ih =>
    intro r n h
    obtain ⟨h1, h2, h3, h4⟩ := exprRun_step h
    rw [List.cons_append, exprRun_cons, if_neg (by rw [h1]; simp; omega), if_neg (by omega)]
    exact ih h4
theorem exprC_run {code : List Ins} (h : exprC code = 0) : code.length ≤ 64 ∧ exprRun 0 code = 0 := by
  unfold exprC at h
  split at h
  · omega
  · exact ⟨by omega, h⟩
theorem runW_app (fs : List (List WI)) (pl : Int) (r : List Ins) : ∀ (l : List Ins) (st : List WI), runW fs pl st (l ++ r) = if (runW fs pl st l).2 = 0 then runW fs pl (runW fs pl st l).1 r else ([], (runW fs pl st l).2) := by
  intro l
  induction l with
  | nil => intro st; rfl
  | cons x l ih =>
    intro st
    rw [List.cons_append, runW_cons, runW_cons]
    split
    · exact ih _
    · rfl
/-- Behind numbers that are there already a formula does the same. -/
theorem runW_front (fs : List (List WI)) (pl : Int) (s0 : List WI) : ∀ (l : List Ins) (st : List WI), exprRun st.length l = 0 → runW fs pl (s0 ++ st) l = (if (runW fs pl st l).2 = 0 then s0 ++ (runW fs pl st l).1 else [], (runW fs pl st l).2) ∧ ((runW fs pl st l).2 = 0 → (runW fs pl st l).1.length = 1) := by
  intro l
  induction l with
  | nil => intro st h; exact ⟨rfl, fun _ => exprRun_end h⟩
  | cons x l ih =>
    intro st h
    obtain ⟨h1, h2, h3, h4⟩ := exprRun_step h
    have e1 : (s0 ++ st).length - argsN x.op = s0.length + (st.length - argsN x.op) := by rw [List.length_append]; omega
    have e2 : (s0 ++ st).drop (s0.length + (st.length - argsN x.op)) = st.drop (st.length - argsN x.op) := by rw [List.drop_append, List.drop_eq_nil_of_le (by omega)]; simp
    have e3 : (s0 ++ st).take (s0.length + (st.length - argsN x.op)) = s0 ++ st.take (st.length - argsN x.op) := by rw [List.take_append, List.take_of_length_le (by omega)]; simp
    rw [runW_cons, runW_cons, e1, e2, e3]
    split
    next hq =>
      have := ih (st.take (st.length - argsN x.op) ++ [(insW fs pl x (st.drop (st.length - argsN x.op))).1]) (by rw [List.length_append, List.length_take]; simpa [Nat.min_eq_left (Nat.sub_le st.length (argsN x.op))] using h4)
      rw [← List.append_assoc] at this
      exact this
    next hq =>
      exact ⟨rfl, fun h => absurd h hq⟩
/-- What an instruction of two makes of formulas' numbers. -/
theorem opW_form {op : Int} {x y z : WI} (h5 : 5 ≤ op ∧ op ≤ 9) (hx : x.fit) (h : (opW op x y z).2 = 0) : (opW op x y z).1.form = true ∧ x.form = true ∧ y.form = true := by
  have hfit : ∀ ng m, (fitW ng m).2 = 0 → (fitW ng m).1.form = true := by
    intro ng m h
    unfold fitW at h ⊢
    split
    next hm => exact ofM_form ng hm
    next hm => rw [if_neg hm] at h; simp at h
  have hadd : ∀ {x y : WI}, (addW x y).2 = 0 → (addW x y).1.form = true ∧ x.form = true ∧ y.form = true := by
    intro x y h
    unfold addW at h ⊢
    split
    next hf =>
      rw [if_pos hf] at h
      refine ⟨?_, hf.1, hf.2⟩
      split
      next h1 => rw [if_pos h1] at h; exact hfit _ _ h
      next h1 =>
        rw [if_neg h1] at h
        split
        next h2 => rw [if_pos h2] at h; exact hfit _ _ h
        next h2 => rw [if_neg h2] at h; exact hfit _ _ h
    next hf => rw [if_neg hf] at h; simp at h
  have hmf : ∀ {x : WI}, x.fit → x.form = true → x.mag < 170141183460469231731687303715884105728 := fun h h2 => mag_form h h2
  unfold opW at h ⊢
  rcases (show op = 5 ∨ op = 6 ∨ op = 7 ∨ op = 8 ∨ op = 9 by omega) with rfl | rfl | rfl | rfl | rfl
  · simp at h ⊢
    exact hadd h
  · simp at h ⊢
    unfold subW at h ⊢
    split
    next hf => rw [if_pos hf] at h; exact ⟨(hadd h).1, hf⟩
    next hf => rw [if_neg hf] at h; simp at h
  · simp at h ⊢
    unfold mulW at h ⊢
    split
    next hf => rw [if_pos hf] at h; exact ⟨hfit _ _ h, hf⟩
    next hf => rw [if_neg hf] at h; simp at h
  · simp at h ⊢
    unfold quoW at h ⊢
    split
    next hb => rw [if_pos hb] at h; simp at h
    next hb =>
      have hb' := badD_no (Bool.eq_false_iff.2 hb)
      exact ⟨ofM_form _ (Nat.lt_of_le_of_lt (Nat.div_le_self _ _) (hmf hx hb'.1)), hb'.1, hb'.2.1⟩
  · simp at h ⊢
    unfold remW at h ⊢
    split
    next hb => rw [if_pos hb] at h; simp at h
    next hb =>
      have hb' := badD_no (Bool.eq_false_iff.2 hb)
      exact ⟨ofM_form _ (Nat.lt_of_le_of_lt (Nat.mod_le _ _) (hmf hx hb'.1)), hb'.1, hb'.2.1⟩
theorem opW_zero {op : Int} {x y z : WI} (h5 : 5 ≤ op ∧ op ≤ 9) (h : (opW op x y z).2 ≠ 0) : (opW op x y z).1 = zW := by
  have hfit : ∀ ng m, (fitW ng m).2 ≠ 0 → (fitW ng m).1 = zW := by
    intro ng m h
    unfold fitW at h ⊢
    split
    next hm => rw [if_pos hm] at h; simp at h
    next hm => rfl
  have hadd : ∀ {x y : WI}, (addW x y).2 ≠ 0 → (addW x y).1 = zW := by
    intro x y h
    unfold addW at h ⊢
    split
    next hf =>
      rw [if_pos hf] at h
      split
      next h1 => rw [if_pos h1] at h; exact hfit _ _ h
      next h1 =>
        rw [if_neg h1] at h
        split
        next h2 => rw [if_pos h2] at h; exact hfit _ _ h
        next h2 => rw [if_neg h2] at h; exact hfit _ _ h
    next hf => rfl
  unfold opW at h ⊢
  rcases (show op = 5 ∨ op = 6 ∨ op = 7 ∨ op = 8 ∨ op = 9 by omega) with rfl | rfl | rfl | rfl | rfl
  · simp at h ⊢
    exact hadd h
  · simp at h ⊢
    unfold subW at h ⊢
    split
    next hf => rw [if_pos hf] at h; exact hadd h
    next hf => rfl
  · simp at h ⊢
    unfold mulW at h ⊢
    split
    next hf => rw [if_pos hf] at h; exact hfit _ _ h
    next hf => rfl
  · simp at h ⊢
    unfold quoW at h ⊢
    split
    next hb => rfl
    next hb => rw [if_neg hb] at h; simp at h
  · simp at h ⊢
    unfold remW at h ⊢
    split
    next hb => rfl
    next hb => rw [if_neg hb] at h; simp at h
end Go.Proofs.YtlhdofkgcbmnnaaGreat

namespace Go.Proofs.Sch
open Go.RowKit Go.Proofs.Heap

section
variable {α : Type} {g : α → List Value}

theorem flat3_len (hg : ∀ x, (g x).length = 3) (l : List α) : (l.flatMap g).length = l.length * 3 := by
  induction l with
  | nil => rfl
  | cons x l ih => rw [List.flatMap_cons, List.length_append, hg, ih, List.length_cons]; omega
theorem flat3_at (hg : ∀ x, (g x).length = 3) (l : List α) : ∀ (i : Nat) (x : α) (r : Nat), l[i]? = some x → r < 3 → (l.flatMap g)[i * 3 + r]? = (g x)[r]? := by
  induction l with
  | nil => intro i x r h; simp at h
  | cons y l ih =>
    intro i x r h hr
    rw [List.flatMap_cons]
    cases i with
    | zero =>
      simp at h
      subst h
      rw [List.getElem?_append_left (by rw [hg]; omega), Nat.zero_mul, Nat.zero_add]
    | succ i =>
      rw [List.getElem?_append_right (by rw [hg]; omega), hg, show (i + 1) * 3 + r - 3 = i * 3 + r by omega]
      exact ih i x r (by simpa using h) hr
theorem flat3_inv (hg : ∀ x, (g x).length = 3) (l : List α) {j : Nat} {u : Value} (h : (l.flatMap g)[j]? = some u) : ∃ x, l[j / 3]? = some x ∧ (g x)[j % 3]? = some u := by
  have hj := (List.getElem?_eq_some_iff.1 h).1
  rw [flat3_len hg] at hj
  have hi : j / 3 < l.length := by omega
  refine ⟨l[j / 3], List.getElem?_eq_getElem hi, ?_⟩
  rw [← flat3_at hg l (j / 3) _ (j % 3) (List.getElem?_eq_getElem hi) (by omega), show j / 3 * 3 + j % 3 = j by omega]
  exact h

theorem rd_row3 {w : World} {b off c : Nat} {l : List α} (hg : ∀ x, (g x).length = 3) (h1 : ∀ x, ∀ u ∈ g x, u.oneCell' = true) (hc : ∀ i x, l[i]? = some x → ∀ r u, (g x)[r]? = some u → w.cell? ⟨b, off + i * 3 + r, none⟩ = some u) :
    Rd w 3 (.slice (some ⟨b, off, none⟩) l.length c) l.length (l.flatMap g) := by
  refine ⟨flat3_len hg l, ?_, .inr ⟨_, _, rfl, fun j u hj => ?_⟩⟩
  · intro u hu
    obtain ⟨x, _, hx⟩ := List.mem_flatMap.1 hu
    exact h1 x u hx
  · obtain ⟨x, hx, hu⟩ := flat3_inv hg l hj
    have := hc _ _ hx _ _ hu
    have hadd : (⟨b, off, none⟩ : Addr).add j = ⟨b, off + j, none⟩ := by unfold Addr.add; split <;> simp_all
    rw [hadd, show off + j = off + j / 3 * 3 + j % 3 by omega]
    exact this

/-- An owned row's cell. -/
theorem owns3_cell {w : World} {base : Nat} {e : TypeId} {q c n : Nat} {l : List α} (hg : ∀ x, (g x).length = 3) (h : w.ownsRow base e 3 (.slice (some ⟨q, 0, none⟩) n c) n (l.flatMap g)) {i r : Nat} {x : α} {u : Value} (hx : l[i]? = some x) (hu : (g x)[r]? = some u) : w.cell? ⟨q, i * 3 + r, none⟩ = some u := by
  have hr : r < 3 := by have := (List.getElem?_eq_some_iff.1 hu).1; rw [hg] at this; exact this
  have := h.cells (g := q) rfl (i * 3 + r) u (by rw [flat3_at hg l i x r hx hr]; exact hu)
  have hadd : (⟨q, 0, none⟩ : Addr).add (i * 3 + r) = ⟨q, i * 3 + r, none⟩ := by unfold Addr.add; split <;> simp_all
  rwa [hadd] at this

/-- A cell of an owned row is set. -/
theorem owns_set3 {w : World} {base : Nat} {e : TypeId} {q c n : Nat} {xs : List Value} (h : w.ownsRow base e 3 (.slice (some ⟨q, 0, none⟩) n c) n xs) (k : Nat) (x : Value) :
    (w.setCell ⟨q, k, none⟩ x).ownsRow base e 3 (.slice (some ⟨q, 0, none⟩) n c) n (xs.set k x) := by
  rcases owns_block h with ⟨e1, _⟩ | ⟨g', c', cur, e1, hb, hg, hn, hm, hs, ht⟩
  · cases e1
  · injection e1 with e1 _ e2
    injection e1 with e1
    injection e1 with e1
    subst e1; subst e2
    refine ⟨by rw [List.length_set]; exact h.1, .inr ⟨_, _, _, rfl, hb, hsc_same hg k x, hn, hm, by simpa using hs, ?_⟩⟩
    rw [← ht]
    simp [List.take_set]
end

def fcl (f : Fld) : List Value := [.string f.name, .int .i64 f.kind, .int .i64 f.count]
theorem fcl_len (f : Fld) : (fcl f).length = 3 := rfl
theorem fcl_one (f : Fld) : ∀ u ∈ fcl f, u.oneCell' = true := by
  intro u hu; simp [fcl] at hu; rcases hu with rfl | rfl | rfl <;> rfl
/-- A component with its row's address and room. -/
abbrev Cv := Cmp × Option Addr × Nat
def ccl (c : Cv) : List Value := [.int .i64 c.1.id, .string c.1.name, .slice c.2.1 c.1.fs.length c.2.2]
theorem ccl_len (c : Cv) : (ccl c).length = 3 := rfl
theorem ccl_one (c : Cv) : ∀ u ∈ ccl c, u.oneCell' = true := by
  intro u hu; simp [ccl] at hu; rcases hu with rfl | rfl | rfl <;> rfl

theorem rd_fields {w : World} {B b off c : Nat} {l : List Fld} (h : FP w B (some ⟨b, off, none⟩) l) : Rd w 3 (.slice (some ⟨b, off, none⟩) l.length c) l.length (l.flatMap fcl) := by
  refine rd_row3 fcl_len fcl_one fun i x hx r u hu => ?_
  obtain ⟨b', off', e, _, h0, h1, h2⟩ := FP.at h hx
  injection e with e
  injection e with e1 e2
  subst e1; subst e2
  match r, hu with
  | 0, hu => injection hu with hu; subst hu; exact h0
  | 1, hu => injection hu with hu; subst hu; exact h1
  | 2, hu => injection hu with hu; subst hu; exact h2
  | _ + 3, hu => simp [fcl] at hu

/-- An owned row of fields is a row of fields. -/
theorem fp_own {w : World} {base n : Nat} {e : TypeId} {p : Option Addr} {c : Nat} {l : List Fld} (hn : l.length = n) (h : w.ownsRow base e 3 (.slice p n c) n (l.flatMap fcl)) : FP w w.heap.size p l := by
  rcases Nat.eq_zero_or_pos n with h0 | h0
  · exact .inl (List.eq_nil_of_length_eq_zero (by omega))
  · obtain ⟨q, rfl⟩ := owns_some h h0
    refine .inr ⟨q, 0, rfl, (h.lt q (by simp [Value.ownBlock])).2, fun i x hx => ?_⟩
    have e0 := owns3_cell fcl_len h hx (r := 0) (u := .string x.name) rfl
    have e1 := owns3_cell fcl_len h hx (r := 1) (u := .int .i64 x.kind) rfl
    have e2 := owns3_cell fcl_len h hx (r := 2) (u := .int .i64 x.count) rfl
    rw [Nat.zero_add]
    exact ⟨e0, e1, e2⟩

/-- The components' rows: the addresses and rooms of a schema. -/
def CV (w : World) (B : Nat) (l : List Cv) : Prop := ∀ c ∈ l, c.1.fs.length ≤ c.2.2 ∧ FP w B c.2.1 c.1.fs
theorem CV.low {w w' : World} {B : Nat} {l : List Cv} (h : CV w B l) (hl : Low B w w') : CV w' B l := fun c hc => ⟨(h c hc).1, FP.low (h c hc).2 hl⟩
theorem CV.mono {w : World} {B B' : Nat} {l : List Cv} (h : CV w B l) (hb : B ≤ B') : CV w B' l := fun c hc => ⟨(h c hc).1, FP.mono (h c hc).2 hb⟩

theorem cp_own {w : World} {base n : Nat} {e : TypeId} {p : Option Addr} {c : Nat} {l : List Cv} (hn : l.length = n) (h : w.ownsRow base e 3 (.slice p n c) n (l.flatMap ccl)) (hv : CV w w.heap.size l) : CP w w.heap.size p (l.map (·.1)) := by
  rcases Nat.eq_zero_or_pos n with h0 | h0
  · exact .inl (by rw [List.eq_nil_of_length_eq_zero (by omega : l.length = 0)]; rfl)
  · obtain ⟨q, rfl⟩ := owns_some h h0
    refine .inr ⟨q, 0, rfl, (h.lt q (by simp [Value.ownBlock])).2, fun i x hx => ?_⟩
    rw [List.getElem?_map] at hx
    cases hy : l[i]? with
    | none => rw [hy] at hx; cases hx
    | some y =>
      rw [hy] at hx
      injection hx with hx
      subst hx
      have e0 := owns3_cell ccl_len h hy (r := 0) (u := .int .i64 y.1.id) rfl
      have e1 := owns3_cell ccl_len h hy (r := 1) (u := .string y.1.name) rfl
      have e2 := owns3_cell ccl_len h hy (r := 2) (u := .slice y.2.1 y.1.fs.length y.2.2) rfl
      have hv' := hv y (List.mem_of_getElem? hy)
      rw [Nat.zero_add]
      exact ⟨e0, e1, y.2.1, y.2.2, e2, hv'.1, hv'.2⟩

/-- A row of components, with what its cells hold. -/
theorem cp_rows {w : World} {B b off : Nat} {l : List Cmp} (h : CP w B (some ⟨b, off, none⟩) l) : ∃ vs : List Cv, vs.map (·.1) = l ∧ CV w B vs ∧ ∀ i x, vs[i]? = some x → ∀ r u, (ccl x)[r]? = some u → w.cell? ⟨b, off + i * 3 + r, none⟩ = some u := by
  have key : ∀ k, k ≤ l.length → ∃ vs : List Cv, vs.map (·.1) = l.take k ∧ CV w B vs ∧ ∀ i x, vs[i]? = some x → ∀ r u, (ccl x)[r]? = some u → w.cell? ⟨b, off + i * 3 + r, none⟩ = some u := by
    intro k
    induction k with
    | zero => intro _; exact ⟨[], by simp, fun c hc => by simp at hc, fun i x hx => by simp at hx⟩
    | succ k ih =>
      intro hk
      obtain ⟨vs, h1, h2, h3⟩ := ih (by omega)
      have hx : l[k]? = some l[k] := List.getElem?_eq_getElem (by omega)
      obtain ⟨b', off', q, z, e, _, c0, c1, c2, c3, c4⟩ := CP.at h hx
      injection e with e
      injection e with e1 e2
      subst e1; subst e2
      have hvl : vs.length = k := by have := congrArg List.length h1; rw [List.length_map, List.length_take] at this; omega
      refine ⟨vs ++ [(l[k], q, z)], ?_, ?_, ?_⟩
      · rw [List.map_append, h1, List.take_add_one, hx]; rfl
      · intro c hc
        rcases List.mem_append.1 hc with hc | hc
        · exact h2 c hc
        · rw [List.mem_singleton.1 hc]; exact ⟨c3, c4⟩
      · intro i x hi r u hu
        by_cases hik : i < vs.length
        · rw [List.getElem?_append_left hik] at hi
          exact h3 i x hi r u hu
        · rw [List.getElem?_append_right (by omega)] at hi
          have hi0 : i - vs.length = 0 := by
            have := (List.getElem?_eq_some_iff.1 hi).1
            simp at this; omega
          rw [hi0] at hi
          injection hi with hi
          subst hi
          have hik : i = k := by omega
          subst hik
          match r, hu with
          | 0, hu => injection hu with hu; subst hu; exact c0
          | 1, hu => injection hu with hu; subst hu; exact c1
          | 2, hu => injection hu with hu; subst hu; exact c2
          | _ + 3, hu => simp [ccl] at hu
  obtain ⟨vs, h1, h2, h3⟩ := key l.length (Nat.le_refl _)
  exact ⟨vs, by rw [h1, List.take_length], h2, h3⟩
end Go.Proofs.Sch

namespace Go.Proofs.YtlhdofkgcbmnnaaGreat
open Go.RowKit Go.Proofs.Heap Go.Proofs.Sch Go.Proofs.Wide

def icl (x : Ins) : List Value := [.int .i64 x.op, .int .i64 x.a, .int .i64 x.b, .bool x.k.neg, .int .u64 (x.k.hi : Int), .int .u64 (x.k.lo : Int)]
theorem icl_len (x : Ins) : (icl x).length = 6 := rfl
theorem flatz_at {α : Type} {z : Nat} {g : α → List Value} (hg : ∀ x, (g x).length = z) : ∀ (l : List α) (i r : Nat) (x : α), l[i]? = some x → r < z → (l.flatMap g)[i * z + r]? = (g x)[r]?
  | [], i, r, x, h, _ => by simp at h
  | a :: l, 0, r, x, h, hr => by
    simp at h
    subst h
    rw [List.flatMap_cons, List.getElem?_append_left (by rw [hg]; omega)]
    simp
  | a :: l, i + 1, r, x, h, hr => by
    have e : (i + 1) * z + r = z + (i * z + r) := by rw [Nat.add_mul, Nat.one_mul]; omega
    rw [List.flatMap_cons, e, List.getElem?_append_right (by rw [hg]; omega), hg, show z + (i * z + r) - z = i * z + r by omega]
    exact flatz_at hg l i r x (by simpa using h) hr
/-- An owned row of instructions is a row of instructions. -/
theorem ip_own {w : World} {base n : Nat} {e : TypeId} {p : Option Addr} {c : Nat} {l : List Ins} (hn : l.length = n) (h : w.ownsRow base e 6 (.slice p n c) n (l.flatMap icl)) : IP w w.heap.size p l := by
  rcases Nat.eq_zero_or_pos n with h0 | h0
  · exact .inl (List.eq_nil_of_length_eq_zero (by omega))
  · obtain ⟨q, rfl⟩ := owns_some h h0
    refine .inr ⟨q, 0, rfl, (h.lt q (by simp [Value.ownBlock])).2, fun i x hx => ?_⟩
    have key : ∀ r u, (icl x)[r]? = some u → w.cell? ⟨q, 0 + i * 6 + r, none⟩ = some u := fun r u hu => by
      have hr : r < 6 := by have := (List.getElem?_eq_some_iff.1 hu).1; rw [icl_len] at this; exact this
      have := h.cells (g := q) rfl (i * 6 + r) u (by rw [flatz_at icl_len l i r x hx hr]; exact hu)
      have hadd : (⟨q, 0, none⟩ : Addr).add (i * 6 + r) = ⟨q, i * 6 + r, none⟩ := by unfold Addr.add; split <;> simp_all
      rw [hadd] at this
      rw [Nat.zero_add]
      exact this
    exact ⟨key 0 _ rfl, key 1 _ rfl, key 2 _ rfl, key 3 _ rfl, key 4 _ rfl, key 5 _ rfl⟩
theorem info_ins : (Tryz.prog.info? 88).map (fun i => (i.zero, i.size, i.bytes)) = some (some (.agg #[.int .i64 0, .int .i64 0, .int .i64 0, .bool false, .int .u64 0, .int .u64 0]), 6, 48) := by kernel_rfl

def useB (x : Ins) : Bool := decide (x.op = 2 ∨ x.op = 3)
/-- The elements that a formula uses. -/
def usesL (code : List Ins) : List Ins := code.filter useB
theorem usesL_next {code : List Ins} {k : Nat} {x : Ins} (h : code[k]? = some x) : usesL (code.take (k + 1)) = usesL (code.take k) ++ (if useB x = true then [x] else []) := by
  unfold usesL
  rw [take_next h, List.filter_append, List.filter_cons, List.filter_nil]
theorem usesL_le (code : List Ins) (k : Nat) : (usesL (code.take k)).length ≤ k := Nat.le_trans (List.length_filter_le _ _) (by rw [List.length_take]; omega)

set_option maxRecDepth 20000 in
set_option maxHeartbeats 4000000 in
theorem expr_uses (code : List Ins) (p : Option Addr) (cap : Nat) (w : World) (hl : code.length ≤ 65536) (hf : IP w w.heap.size p code) :
    Calls Tryz.prog 143 #[.slice p code.length cap] w fun r w' => ∃ q c, r = .returned (.slice q (usesL code).length c) ∧ IP w' w'.heap.size q (usesL code) ∧ Keep (fun _ => False) w w' := by
  obtain ⟨i0, hi0, hz0, hz1, hz2⟩ := info_parts' info_ins
  have HF := hid hf
  clear hf
  go_enter Tryz.func143, Tryz.ntmps143
  go_wp2_with fail
  go_loopw [3, 5, 8] (fun v _ i wr => ∃ k : Nat, k ≤ code.length ∧ i = iV k ∧ wr.ownsRow w.heap.size 88 6 v (usesL (code.take k)).length ((usesL (code.take k)).flatMap icl) ∧ Keep (fun _ => False) w wr) (fun _ _ i _ => code.length + 1 - (intOf i).toNat)
  case atStart => exact ⟨0, Nat.zero_le _, rfl, World.ownsRow_nil _ _ _ _, Keep.refl _ _⟩
  case round =>
    obtain ⟨k, hk, rfl, how, hkr⟩ := hrel
    obtain ⟨vp, vc, rfl⟩ := owns_val how
    have HO := hid how; have HKR := hid hkr
    clear how hkr
    by_cases hlt : k < code.length
    · obtain ⟨x, hxk⟩ : ∃ x, code[k]? = some x := ⟨code[k], by simp [hlt]⟩
      have HNX := hid (usesL_next hxk)
      have HLE := hid (usesL_le code k)
      obtain ⟨b, off, rfl, hb, c0, c1, c2, c3, c4, c5⟩ := IP.at (IP.low HF.out (Low.keep0 HKR.out)) hxk
      have hin : (0 : Int) ≤ (k : Int) ∧ (k : Int) < (code.length : Int) := ⟨by omega, by omega⟩
      clear hxk hb
      obtain ⟨op, xa, xb, ⟨kn, kh, kl⟩⟩ := x
      simp only at c0 c1 c2 c3 c4 c5
      have HBX := hid (heap_alloc_new wr (.cells #[.int .i64 op, .int .i64 xa, .int .i64 xb, .bool kn, .int .u64 (kh : Int), .int .u64 (kl : Int)] 88))
      have HK1 := hid (HKR.out.alloc (.cells #[.int .i64 op, .int .i64 xa, .int .i64 xb, .bool kn, .int .u64 (kh : Int), .int .u64 (kl : Int)] 88))
      have HO1 := hid (HO.out.alloc (.cells #[.int .i64 op, .int .i64 xa, .int .i64 xb, .bool kn, .int .u64 (kh : Int), .int .u64 (kl : Int)] 88))
      go_upto_region 5 with fail
      generalize wr.alloc (.cells #[.int .i64 op, .int .i64 xa, .int .i64 xb, .bool kn, .int .u64 (kh : Int), .int .u64 (kl : Int)] 88) = w1 at *
      generalize wr.heap.size = sb at *
      clear c0 c1 c2 c3 c4 c5
      have s0 : w1.cell? ⟨sb, 0, none⟩ = some (.int .i64 op) := cell_of HBX.out (by rfl)
      have s1 : w1.cell? ⟨sb, 1, none⟩ = some (.int .i64 xa) := cell_of HBX.out (by rfl)
      have s2 : w1.cell? ⟨sb, 2, none⟩ = some (.int .i64 xb) := cell_of HBX.out (by rfl)
      have s3 : w1.cell? ⟨sb, 3, none⟩ = some (.bool kn) := cell_of HBX.out (by rfl)
      have s4 : w1.cell? ⟨sb, 4, none⟩ = some (.int .u64 (kh : Int)) := cell_of HBX.out (by rfl)
      have s5 : w1.cell? ⟨sb, 5, none⟩ = some (.int .u64 (kl : Int)) := cell_of HBX.out (by rfl)
      have HSZ := hid HK1.out.size
      by_cases hop : op = 2 ∨ op = 3
      rotate_left
      · have g1 : (op == 2) = false := beq_eq_false_iff_ne.2 (by omega)
        have g2 : (op == 3) = false := beq_eq_false_iff_ne.2 (by omega)
        have G : Hid (usesL (code.take (k + 1)) = usesL (code.take k)) := hid (by rw [HNX.out, if_neg (by unfold useB; simpa using hop), List.append_nil])
        clear hop
        go_wp2
        go_roundw
        case rel => exact ⟨k + 1, by omega, by go_num, by rw [G.out]; exact HO1.out, HK1.out⟩
        case measure => simp [intOf]; omega
      · have G : Hid (usesL (code.take (k + 1)) = usesL (code.take k) ++ [⟨op, xa, xb, ⟨kn, kh, kl⟩⟩]) := hid (by rw [HNX.out, if_pos (by unfold useB; simpa using hop)])
        generalize usesL (code.take k) = us at *
        rcases hop with rfl | rfl
        all_goals
          go_wp2_with (at_builtin; go_loud (refine wpList_append_rd rfl (.tmp 20) (.tmp 22) _ rfl w.heap.size _ i0 _ 6 48 Tryz.underlying90 hi0 hz0 hz1 hz2 rfl (by decide) _ us.length _ (by rfl) (HO1.out.alloc _) _ 1 _ (by rfl) (rd_block (heap_alloc_new w1 _) (by simp) (by simp [Value.oneCell'])) (by unfold maxLen; have := HLE.out; omega) (by have := HLE.out; omega) (by have := HSZ.out; simp; omega) ?_); go_loud (intro v' w5 hown5 hgrow5 hat5 hn5; obtain ⟨vq, vd, rfl⟩ := owns_val hown5; have HO5 := hid hown5; have HK5 := hid ((HK1.out.alloc _).grown hgrow5 (fun k hk => .inl (HO1.out.lt k hk).1)); clear hown5 hgrow5 hat5 hn5))
          go_wp2
          go_roundw
          case rel => exact ⟨k + 1, by omega, by go_num, by rw [G.out]; have h := HO5.out; simpa [icl] using h, HK5.out⟩
          case measure => simp [intOf]; omega
    · obtain rfl : k = code.length := by omega
      have g0 : decide ((code.length : Int) < (code.length : Int)) = false := decide_eq_false (by omega)
      rw [List.take_length] at *
      go_wp2
      go_ret
      exact ⟨vp, vc, rfl, ip_own rfl HO.out, HKR.out⟩
end Go.Proofs.YtlhdofkgcbmnnaaGreat
