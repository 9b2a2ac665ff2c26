/- What is proved: what Mul of the great numbers answers, whatever it is handed. -/
import Derived.Test.YtjebgidddfamlaaMWsub
import Derived.Test.YtjebgidddfamlaaMWideDiv
import Derived.Test.YtjebgidddfamlaaMExpr3
import Derived.Test.YtjebgidddfamlaaMSchCheck
namespace Go.Proofs.Wide
def mulW (x y : WI) : WI × Nat := if x.form = true ∧ y.form = true then fitW (x.neg != y.neg) (x.mag * y.mag) else (zW, 1)
theorem mulW_fit (x y : WI) : (mulW x y).1.fit := by
  unfold mulW
  split
  · exact fitW_fit _ _
  · exact zW_fit
theorem mag_ge {x : WI} (h : x.hi ≠ 0) : 18446744073709551616 ≤ x.mag := by unfold WI.mag; omega
theorem prod_eq (ah al bl : Nat) : (ah * 18446744073709551616 + al) * bl = ah * bl * 18446744073709551616 + al * bl := by
  rw [Nat.add_mul, Nat.mul_assoc, Nat.mul_comm 18446744073709551616 bl, ← Nat.mul_assoc]
end Go.Proofs.Wide
namespace Go.Proofs.Ytjebgidddfamlaa
open Go.RowKit Go.Proofs.Heap Go.Proofs.Wide

set_option maxRecDepth 20000 in
set_option maxHeartbeats 8000000 in
theorem w_mulU (x y : WI) (hx : x.fit) (hy : y.fit) (w : World) : Calls Try.prog 27 #[WV x, WV y] w fun r w' => r = .returned (.tuple #[WV (mulW x y).1, iV (mulW x y).2]) ∧ Keep (fun _ => False) w w' := by
  obtain ⟨w1, hw1, hb1, hb2, hb3, hs1, hk1⟩ := box3 w (WC x) (WC y) Z3 38 38 38
  have HK1 := hid hk1; have HA1 := hid hb1; have HB1 := hid hb2; have HR1 := hid hb3
  have HFX := hid hx; have HFY := hid hy
  clear hb1 hb2 hb3 hs1 hk1 hx hy
  go_enter Try.func27, Try.ntmps27
  go_upto_region 1 with fail
  rw [← hw1]
  clear hw1
  obtain ⟨sa, hsa⟩ : ∃ sa, w.heap.size = sa := ⟨_, rfl⟩
  obtain ⟨sb, hsb⟩ : ∃ sb, w.heap.size + 1 = sb := ⟨_, rfl⟩
  obtain ⟨sr, hsr⟩ : ∃ sr, w.heap.size + 1 + 1 = sr := ⟨_, rfl⟩
  have HSR : Hid (w.heap.size ≤ sr ∧ w.heap.size ≤ sa ∧ w.heap.size ≤ sb ∧ sa ≠ sr ∧ sb ≠ sr ∧ sa ≠ sb) := hid (by omega)
  rw [hsr] at HR1 ⊢
  rw [hsb] at HB1 ⊢
  rw [hsa] at HA1 ⊢
  clear hsa hsb hsr
  have a0 : w1.cell? ⟨sa, 0, none⟩ = some (.bool x.neg) := cell_of HA1.out (by rfl)
  have a1 : w1.cell? ⟨sa, 1, none⟩ = some (.int .u64 (x.hi : Int)) := cell_of HA1.out (by rfl)
  have a2 : w1.cell? ⟨sa, 2, none⟩ = some (.int .u64 (x.lo : Int)) := cell_of HA1.out (by rfl)
  have b0 : w1.cell? ⟨sb, 0, none⟩ = some (.bool y.neg) := cell_of HB1.out (by rfl)
  have b1 : w1.cell? ⟨sb, 1, none⟩ = some (.int .u64 (y.hi : Int)) := cell_of HB1.out (by rfl)
  have b2 : w1.cell? ⟨sb, 2, none⟩ = some (.int .u64 (y.lo : Int)) := cell_of HB1.out (by rfl)
  obtain ⟨bd, hbd⟩ : ∃ bd, badW x y false = bd := ⟨_, rfl⟩
  have HBD := hid hbd
  have HCK := hid (w_checkU x y false HFX.out HFY.out w1)
  rw [hbd] at HCK
  clear hbd
  go_wp2_with fail
  refine HCK.out.mono ?_
  rintro r w2 ⟨rfl, hk⟩
  have HK2 := hid (HK1.out.trans hk); have HA2 := hid (hk.get HA1.out id); have HB2 := hid (hk.get HB1.out id); have HR2 := hid (hk.get HR1.out id)
  clear hk HCK
  clear a0 a1 a2 b0 b1 b2
  cases bd
  rotate_left
  · as_aux_lemma =>
    have G : Hid (mulW x y = (zW, 1)) := hid (if_neg (badW_yes HBD.out))
    have f0 := free_of HR2.out 0
    have f1 := free_of HR2.out 1
    have f2 := free_of HR2.out 2
    have c0 := cell_of HR2.out (i := 0) (by rfl)
    have c1 := cell_of HR2.out (i := 1) (by rfl)
    have c2 := cell_of HR2.out (i := 2) (by rfl)
    go_wp2
    (try simp only [Exit.inBlock, Exit.then])
    refine bodyPost_ret (results_ct rfl _ rfl (run_loadVar_row _ sr _ 38 _ _ _ (cells3 (.bool false) (.int .u64 0) (.int .u64 0) HR2.out) Try.underlying38 rfl (by kernel_rfl))) rfl ?_
    exact ⟨by rw [G.out]; rfl, ((HK2.out.setCell_new (p := ⟨sr, 0, none⟩) (by show _ ≤ sr; have := HSR.out; omega) _).setCell_new (p := ⟨sr, 1, none⟩) (by show _ ≤ sr; have := HSR.out; omega) _).setCell_new (p := ⟨sr, 2, none⟩) (by show _ ≤ sr; have := HSR.out; omega) _⟩
  have HFO := hid (badW_no HBD.out)
  have HMW : Hid (mulW x y = fitW (x.neg != y.neg) (x.mag * y.mag)) := hid (if_pos HFO.out)
  have HBIG : Hid (∀ m, 340282366920938463463374607431768211456 ≤ m → fitW (x.neg != y.neg) m = (zW, 3)) := hid (fun m h => if_neg (by omega))
  have a0 : w2.cell? ⟨sa, 0, none⟩ = some (.bool x.neg) := cell_of HA2.out (by rfl)
  have a1 : w2.cell? ⟨sa, 1, none⟩ = some (.int .u64 (x.hi : Int)) := cell_of HA2.out (by rfl)
  have a2 : w2.cell? ⟨sa, 2, none⟩ = some (.int .u64 (x.lo : Int)) := cell_of HA2.out (by rfl)
  have b0 : w2.cell? ⟨sb, 0, none⟩ = some (.bool y.neg) := cell_of HB2.out (by rfl)
  have b1 : w2.cell? ⟨sb, 1, none⟩ = some (.int .u64 (y.hi : Int)) := cell_of HB2.out (by rfl)
  have b2 : w2.cell? ⟨sb, 2, none⟩ = some (.int .u64 (y.lo : Int)) := cell_of HB2.out (by rfl)
  by_cases hbig : x.hi ≠ 0 ∧ y.hi ≠ 0
  · as_aux_lemma =>
    have G : Hid (mulW x y = (zW, 3)) := hid (by
      rw [HMW.out]
      refine HBIG.out _ ?_
      have h1 := mag_ge hbig.1
      have h2 := mag_ge hbig.2
      exact Nat.le_trans (by omega : 340282366920938463463374607431768211456 ≤ 18446744073709551616 * 18446744073709551616) (Nat.mul_le_mul h1 h2))
    have g1 : ((x.hi : Int) != 0) = true := by rw [bne_iff_ne]; omega
    have g2 : ((y.hi : Int) != 0) = true := by rw [bne_iff_ne]; omega
    clear hbig
    have f0 := free_of HR2.out 0
    have f1 := free_of HR2.out 1
    have f2 := free_of HR2.out 2
    have c0 := cell_of HR2.out (i := 0) (by rfl)
    have c1 := cell_of HR2.out (i := 1) (by rfl)
    have c2 := cell_of HR2.out (i := 2) (by rfl)
    go_wp2
    (try simp only [Exit.inBlock, Exit.then])
    refine bodyPost_ret (results_ct rfl _ rfl (run_loadVar_row _ sr _ 38 _ _ _ (cells3 (.bool false) (.int .u64 0) (.int .u64 0) HR2.out) Try.underlying38 rfl (by kernel_rfl))) rfl ?_
    exact ⟨by rw [G.out]; rfl, ((HK2.out.setCell_new (p := ⟨sr, 0, none⟩) (by show _ ≤ sr; have := HSR.out; omega) _).setCell_new (p := ⟨sr, 1, none⟩) (by show _ ≤ sr; have := HSR.out; omega) _).setCell_new (p := ⟨sr, 2, none⟩) (by show _ ≤ sr; have := HSR.out; omega) _⟩
  have HNB := hid hbig
  clear hbig
  obtain ⟨bx, hbx⟩ : ∃ bx, ((x.hi : Int) != 0) = bx := ⟨_, rfl⟩
  obtain ⟨by_, hby⟩ : ∃ by_, ((y.hi : Int) != 0) = by_ := ⟨_, rfl⟩
  obtain ⟨be, hbe⟩ : ∃ be, ((x.hi : Int) == 0) = be := ⟨_, rfl⟩
  have HBX : Hid ((bx = true → by_ = false ∧ y.hi = 0 ∧ x.hi ≠ 0 ∧ be = false) ∧ (bx = false → x.hi = 0 ∧ be = true)) := hid (by
    have hnb := HNB.out
    rw [← hbx, ← hby, ← hbe]
    constructor
    · intro h
      rw [bne_iff_ne] at h
      have hx0 : x.hi ≠ 0 := by omega
      have hy0 : y.hi = 0 := by
        by_cases hy : y.hi = 0
        · exact hy
        · exact absurd ⟨hx0, hy⟩ hnb
      refine ⟨by rw [hy0]; rfl, hy0, hx0, by rw [beq_eq_false_iff_ne]; exact h⟩
    · intro h
      have h2 : x.hi = 0 := by
        by_cases hx : x.hi = 0
        · exact hx
        · exfalso
          have : ((x.hi : Int) != 0) = true := by rw [bne_iff_ne]; omega
          rw [this] at h; cases h
      exact ⟨h2, by rw [h2]; rfl⟩)
  clear HNB
  cases bx
  · obtain ⟨hx0, hbe1⟩ := HBX.out.2 rfl
    rw [hbe1] at hbe
    have HX0 := hid hx0
    clear hx0 hbe1 HBX
    have HAX := hid (cells3 (.bool y.neg) (.int .u64 (y.hi : Int)) (.int .u64 (y.lo : Int)) HA2.out)
    have HKX := hid ((((Keep.refl (fun g => g = sa) w2).setCell (p := ⟨sa, 0, none⟩) rfl (.bool y.neg)).setCell (p := ⟨sa, 1, none⟩) rfl (.int .u64 (y.hi : Int))).setCell (p := ⟨sa, 2, none⟩) rfl (.int .u64 (y.lo : Int)))
    have HBX2 := hid (HKX.out.get HB2.out (fun e => by have := HSR.out; omega)); have HRX := hid (HKX.out.get HR2.out (fun e => by have := HSR.out; omega))
    have HKW := hid (keep_new HK2.out HKX.out (fun g e => by have := HSR.out; omega))
    have hne1 : sa ≠ sb := HSR.out.2.2.2.2.2
    have hne2 : sb ≠ sa := fun e => hne1 e.symm
    have f0 := free_of HA2.out 0
    have f1 := free_of HA2.out 1
    have f2 := free_of HA2.out 2
    have e0 := free_of HB2.out 0
    have e1 := free_of HB2.out 1
    have e2 := free_of HB2.out 2
    go_upto_region 8 with fail
    clear f0 f1 f2 e0 e1 e2 a0 a1 a2 b0 b1 b2 hne1 hne2 hbe hby
    generalize ((w2.setCell ⟨sa, 0, none⟩ (.bool y.neg)).setCell ⟨sa, 1, none⟩ (.int .u64 (y.hi : Int))).setCell ⟨sa, 2, none⟩ (.int .u64 (y.lo : Int)) = w3 at *
    have HB4 := hid (cells3 (.bool x.neg) (.int .u64 (x.hi : Int)) (.int .u64 (x.lo : Int)) HBX2.out)
    have hky := ((((Keep.refl (fun g => g = sb) w3).setCell (p := ⟨sb, 0, none⟩) rfl (.bool x.neg)).setCell (p := ⟨sb, 1, none⟩) rfl (.int .u64 (x.hi : Int))).setCell (p := ⟨sb, 2, none⟩) rfl (.int .u64 (x.lo : Int)))
    have HA4 := hid (hky.get HAX.out (fun e => by have := HSR.out; omega)); have HR4 := hid (hky.get HRX.out (fun e => by have := HSR.out; omega))
    have HK4 := hid (keep_new HKW.out hky (fun g e => by have := HSR.out; omega))
    clear hky
    generalize ((w3.setCell ⟨sb, 0, none⟩ (.bool x.neg)).setCell ⟨sb, 1, none⟩ (.int .u64 (x.hi : Int))).setCell ⟨sb, 2, none⟩ (.int .u64 (x.lo : Int)) = w4 at *
    as_aux_lemma =>
    have a0 : w4.cell? ⟨sa, 0, none⟩ = some (.bool y.neg) := cell_of HA4.out (by rfl)
    have a1 : w4.cell? ⟨sa, 1, none⟩ = some (.int .u64 (y.hi : Int)) := cell_of HA4.out (by rfl)
    have a2 : w4.cell? ⟨sa, 2, none⟩ = some (.int .u64 (y.lo : Int)) := cell_of HA4.out (by rfl)
    have b0 : w4.cell? ⟨sb, 0, none⟩ = some (.bool x.neg) := cell_of HB4.out (by rfl)
    have b1 : w4.cell? ⟨sb, 1, none⟩ = some (.int .u64 (x.hi : Int)) := cell_of HB4.out (by rfl)
    have b2 : w4.cell? ⟨sb, 2, none⟩ = some (.int .u64 (x.lo : Int)) := cell_of HB4.out (by rfl)
    obtain ⟨p1, hp1⟩ : ∃ p, y.lo * x.lo = p := ⟨_, rfl⟩
    obtain ⟨p2, hp2⟩ : ∃ p, y.hi * x.lo = p := ⟨_, rfl⟩
    obtain ⟨h1, hh1⟩ : ∃ q, p1 / 18446744073709551616 = q := ⟨_, rfl⟩
    obtain ⟨lo, hlo⟩ : ∃ q, p1 % 18446744073709551616 = q := ⟨_, rfl⟩
    obtain ⟨ov, hov⟩ : ∃ q, p2 / 18446744073709551616 = q := ⟨_, rfl⟩
    obtain ⟨md, hmd⟩ : ∃ q, p2 % 18446744073709551616 = q := ⟨_, rfl⟩
    obtain ⟨sm, hsm⟩ : ∃ q, (h1 + md + 0) % 18446744073709551616 = q := ⟨_, rfl⟩
    obtain ⟨cy, hcy⟩ : ∃ q, (h1 + md + 0) / 18446744073709551616 = q := ⟨_, rfl⟩
    have m1 : Hid (∀ wz, Calls Try.prog 58 #[.int .u64 (y.lo : Int), .int .u64 (x.lo : Int)] wz fun e w' => e = .returned (.tuple #[.int .u64 (h1 : Int), .int .u64 (lo : Int)]) ∧ wz = w') := hid (fun wz => by
      have h := b_mul64 y.lo x.lo HFY.out.2 HFX.out.2 wz
      rwa [hp1, hh1, hlo] at h)
    have m2 : Hid (∀ wz, Calls Try.prog 58 #[.int .u64 (y.hi : Int), .int .u64 (x.lo : Int)] wz fun e w' => e = .returned (.tuple #[.int .u64 (ov : Int), .int .u64 (md : Int)]) ∧ wz = w') := hid (fun wz => by
      have h := b_mul64 y.hi x.lo HFY.out.1 HFX.out.2 wz
      rwa [hp2, hov, hmd] at h)
    have q1 : (callFunc 54 #[.int .u64 (h1 : Int), .int .u64 (md : Int), .int .u64 0]).run Try.prog w4 = .ok (.value (.tuple #[.int .u64 (sm : Int), .int .u64 (cy : Int)])) w4 := by
      have := ext_add64 h1 md 0 (by omega) w4
      rwa [hsm, hcy] at this
    have hpr : x.mag * y.mag = p2 * 18446744073709551616 + p1 := by
      have e : x.mag = x.lo := by unfold WI.mag; rw [HX0.out]; omega
      rw [Nat.mul_comm x.mag y.mag, e, ← hp1, ← hp2]
      exact prod_eq _ _ _
    have hpl1 : p1 < 340282366920938463463374607431768211456 := by
      rw [← hp1]
      exact Nat.lt_of_lt_of_le (Nat.mul_lt_mul'' HFY.out.2 HFX.out.2) (by omega)
    have hpl2 : p2 < 340282366920938463463374607431768211456 := by
      rw [← hp2]
      exact Nat.lt_of_lt_of_le (Nat.mul_lt_mul'' HFY.out.1 HFX.out.2) (by omega)
    obtain ⟨z, hz, hz0⟩ := or_zero ov cy (by omega) (by omega)
    have HM : Hid ((x.mag * y.mag = sm * 18446744073709551616 + lo ∧ z = 0) ∨ (340282366920938463463374607431768211456 ≤ x.mag * y.mag ∧ z ≠ 0)) := hid (by
      rw [hpr]
      by_cases hzz : z = 0
      · have := hz0.1 hzz
        exact .inl ⟨by omega, hzz⟩
      · refine .inr ⟨?_, hzz⟩
        by_cases h : ov = 0
        · have : cy ≠ 0 := fun h2 => hzz (hz0.2 ⟨h, h2⟩)
          omega
        · omega)
    have HL : Hid (sm < 18446744073709551616 ∧ lo < 18446744073709551616) := hid (by omega)
    clear hp1 hp2 hh1 hlo hov hmd hsm hcy hpr hz0 hpl1 hpl2
    go_wp2_with fail
    refine (m1.out w4).mono ?_
    rintro r w_ ⟨rfl, rfl⟩
    go_wp2_with fail
    refine (m2.out _).mono ?_
    rintro r w_ ⟨rfl, rfl⟩
    rcases HM.out with ⟨hm, hz1⟩ | ⟨hm, hz1⟩
    rotate_left
    · as_aux_lemma =>
      have G : Hid (mulW x y = (zW, 3)) := hid (by rw [HMW.out]; exact HBIG.out _ hm)
      have g1 : ((z : Int) != 0) = true := by rw [bne_iff_ne]; omega
      clear hz1 hm
      have f0 := free_of HR4.out 0
      have f1 := free_of HR4.out 1
      have f2 := free_of HR4.out 2
      have c0 := cell_of HR4.out (i := 0) (by rfl)
      have c1 := cell_of HR4.out (i := 1) (by rfl)
      have c2 := cell_of HR4.out (i := 2) (by rfl)
      go_wp2
      (try simp only [Exit.inBlock, Exit.then])
      refine bodyPost_ret (results_ct rfl _ rfl (run_loadVar_row _ sr _ 38 _ _ _ (cells3 (.bool false) (.int .u64 0) (.int .u64 0) HR4.out) Try.underlying38 rfl (by kernel_rfl))) rfl ?_
      exact ⟨by rw [G.out]; rfl, ((HK4.out.setCell_new (p := ⟨sr, 0, none⟩) (by show _ ≤ sr; have := HSR.out; omega) _).setCell_new (p := ⟨sr, 1, none⟩) (by show _ ≤ sr; have := HSR.out; omega) _).setCell_new (p := ⟨sr, 2, none⟩) (by show _ ≤ sr; have := HSR.out; omega) _⟩
    have g1 : ((z : Int) != 0) = false := by rw [hz1]; rfl
    have HMM := hid hm
    clear hm hz1
    go_wp2_with fail
    refine (w_fitU (y.neg != x.neg) sm lo (x.mag * y.mag) HL.out.1 HL.out.2 HMM.out.symm w4).mono ?_
    rintro r w5 ⟨rfl, hk⟩
    have HK5 := hid (HK4.out.trans hk); have HR5 := hid (hk.get HR4.out id)
    clear hk q1 g1 hz a0 a1 a2 b0 b1 b2
    obtain ⟨⟨z2, e⟩, hze⟩ : ∃ p, fitW (y.neg != x.neg) (x.mag * y.mag) = p := ⟨_, rfl⟩
    rw [hze]
    have HZE : Hid (mulW x y = (z2, e)) := hid (by rw [HMW.out, ← hze]; rw [bne_comm])
    clear hze
    have f0 := free_of HR5.out 0
    have f1 := free_of HR5.out 1
    have f2 := free_of HR5.out 2
    have c0 := cell_of HR5.out (i := 0) (by rfl)
    have c1 := cell_of HR5.out (i := 1) (by rfl)
    have c2 := cell_of HR5.out (i := 2) (by rfl)
    go_wp2
    (try simp only [Exit.inBlock, Exit.then])
    refine bodyPost_ret (results_ct rfl _ rfl (run_loadVar_row _ sr _ 38 _ _ _ (cells3 (.bool z2.neg) (.int .u64 (z2.hi : Int)) (.int .u64 (z2.lo : Int)) HR5.out) Try.underlying38 rfl (by kernel_rfl))) rfl ?_
    exact ⟨by rw [HZE.out]; rfl, ((HK5.out.setCell_new (p := ⟨sr, 0, none⟩) (by show _ ≤ sr; have := HSR.out; omega) _).setCell_new (p := ⟨sr, 1, none⟩) (by show _ ≤ sr; have := HSR.out; omega) _).setCell_new (p := ⟨sr, 2, none⟩) (by show _ ≤ sr; have := HSR.out; omega) _⟩
  · obtain ⟨hby1, hy0, hx0, hbe1⟩ := HBX.out.1 rfl
    rw [hbe1] at hbe
    rw [hby1] at hby
    have HX0 := hid hy0
    clear hx0 hy0 hbe1 hby1 HBX
    go_upto_region 8 with fail
    clear a0 a1 a2 b0 b1 b2 hbe hby hbx
    as_aux_lemma =>
    have a0 : w2.cell? ⟨sa, 0, none⟩ = some (.bool x.neg) := cell_of HA2.out (by rfl)
    have a1 : w2.cell? ⟨sa, 1, none⟩ = some (.int .u64 (x.hi : Int)) := cell_of HA2.out (by rfl)
    have a2 : w2.cell? ⟨sa, 2, none⟩ = some (.int .u64 (x.lo : Int)) := cell_of HA2.out (by rfl)
    have b0 : w2.cell? ⟨sb, 0, none⟩ = some (.bool y.neg) := cell_of HB2.out (by rfl)
    have b1 : w2.cell? ⟨sb, 1, none⟩ = some (.int .u64 (y.hi : Int)) := cell_of HB2.out (by rfl)
    have b2 : w2.cell? ⟨sb, 2, none⟩ = some (.int .u64 (y.lo : Int)) := cell_of HB2.out (by rfl)
    obtain ⟨p1, hp1⟩ : ∃ p, x.lo * y.lo = p := ⟨_, rfl⟩
    obtain ⟨p2, hp2⟩ : ∃ p, x.hi * y.lo = p := ⟨_, rfl⟩
    obtain ⟨h1, hh1⟩ : ∃ q, p1 / 18446744073709551616 = q := ⟨_, rfl⟩
    obtain ⟨lo, hlo⟩ : ∃ q, p1 % 18446744073709551616 = q := ⟨_, rfl⟩
    obtain ⟨ov, hov⟩ : ∃ q, p2 / 18446744073709551616 = q := ⟨_, rfl⟩
    obtain ⟨md, hmd⟩ : ∃ q, p2 % 18446744073709551616 = q := ⟨_, rfl⟩
    obtain ⟨sm, hsm⟩ : ∃ q, (h1 + md + 0) % 18446744073709551616 = q := ⟨_, rfl⟩
    obtain ⟨cy, hcy⟩ : ∃ q, (h1 + md + 0) / 18446744073709551616 = q := ⟨_, rfl⟩
    have m1 : Hid (∀ wz, Calls Try.prog 58 #[.int .u64 (x.lo : Int), .int .u64 (y.lo : Int)] wz fun e w' => e = .returned (.tuple #[.int .u64 (h1 : Int), .int .u64 (lo : Int)]) ∧ wz = w') := hid (fun wz => by
      have h := b_mul64 x.lo y.lo HFX.out.2 HFY.out.2 wz
      rwa [hp1, hh1, hlo] at h)
    have m2 : Hid (∀ wz, Calls Try.prog 58 #[.int .u64 (x.hi : Int), .int .u64 (y.lo : Int)] wz fun e w' => e = .returned (.tuple #[.int .u64 (ov : Int), .int .u64 (md : Int)]) ∧ wz = w') := hid (fun wz => by
      have h := b_mul64 x.hi y.lo HFX.out.1 HFY.out.2 wz
      rwa [hp2, hov, hmd] at h)
    have q1 : (callFunc 54 #[.int .u64 (h1 : Int), .int .u64 (md : Int), .int .u64 0]).run Try.prog w2 = .ok (.value (.tuple #[.int .u64 (sm : Int), .int .u64 (cy : Int)])) w2 := by
      have := ext_add64 h1 md 0 (by omega) w2
      rwa [hsm, hcy] at this
    have hpr : x.mag * y.mag = p2 * 18446744073709551616 + p1 := by
      have e : y.mag = y.lo := by unfold WI.mag; rw [HX0.out]; omega
      rw [e, ← hp1, ← hp2]
      exact prod_eq _ _ _
    have hpl1 : p1 < 340282366920938463463374607431768211456 := by
      rw [← hp1]
      exact Nat.lt_of_lt_of_le (Nat.mul_lt_mul'' HFX.out.2 HFY.out.2) (by omega)
    have hpl2 : p2 < 340282366920938463463374607431768211456 := by
      rw [← hp2]
      exact Nat.lt_of_lt_of_le (Nat.mul_lt_mul'' HFX.out.1 HFY.out.2) (by omega)
    obtain ⟨z, hz, hz0⟩ := or_zero ov cy (by omega) (by omega)
    have HM : Hid ((x.mag * y.mag = sm * 18446744073709551616 + lo ∧ z = 0) ∨ (340282366920938463463374607431768211456 ≤ x.mag * y.mag ∧ z ≠ 0)) := hid (by
      rw [hpr]
      by_cases hzz : z = 0
      · have := hz0.1 hzz
        exact .inl ⟨by omega, hzz⟩
      · refine .inr ⟨?_, hzz⟩
        by_cases h : ov = 0
        · have : cy ≠ 0 := fun h2 => hzz (hz0.2 ⟨h, h2⟩)
          omega
        · omega)
    have HL : Hid (sm < 18446744073709551616 ∧ lo < 18446744073709551616) := hid (by omega)
    clear hp1 hp2 hh1 hlo hov hmd hsm hcy hpr hz0 hpl1 hpl2
    go_wp2_with fail
    refine (m1.out w2).mono ?_
    rintro r w_ ⟨rfl, rfl⟩
    go_wp2_with fail
    refine (m2.out _).mono ?_
    rintro r w_ ⟨rfl, rfl⟩
    rcases HM.out with ⟨hm, hz1⟩ | ⟨hm, hz1⟩
    rotate_left
    · as_aux_lemma =>
      have G : Hid (mulW x y = (zW, 3)) := hid (by rw [HMW.out]; exact HBIG.out _ hm)
      have g1 : ((z : Int) != 0) = true := by rw [bne_iff_ne]; omega
      clear hz1 hm
      have f0 := free_of HR2.out 0
      have f1 := free_of HR2.out 1
      have f2 := free_of HR2.out 2
      have c0 := cell_of HR2.out (i := 0) (by rfl)
      have c1 := cell_of HR2.out (i := 1) (by rfl)
      have c2 := cell_of HR2.out (i := 2) (by rfl)
      go_wp2
      (try simp only [Exit.inBlock, Exit.then])
      refine bodyPost_ret (results_ct rfl _ rfl (run_loadVar_row _ sr _ 38 _ _ _ (cells3 (.bool false) (.int .u64 0) (.int .u64 0) HR2.out) Try.underlying38 rfl (by kernel_rfl))) rfl ?_
      exact ⟨by rw [G.out]; rfl, ((HK2.out.setCell_new (p := ⟨sr, 0, none⟩) (by show _ ≤ sr; have := HSR.out; omega) _).setCell_new (p := ⟨sr, 1, none⟩) (by show _ ≤ sr; have := HSR.out; omega) _).setCell_new (p := ⟨sr, 2, none⟩) (by show _ ≤ sr; have := HSR.out; omega) _⟩
    have g1 : ((z : Int) != 0) = false := by rw [hz1]; rfl
    have HMM := hid hm
    clear hm hz1
    go_wp2_with fail
    refine (w_fitU (x.neg != y.neg) sm lo (x.mag * y.mag) HL.out.1 HL.out.2 HMM.out.symm w2).mono ?_
    rintro r w5 ⟨rfl, hk⟩
    have HK5 := hid (HK2.out.trans hk); have HR5 := hid (hk.get HR2.out id)
    clear hk q1 g1 hz a0 a1 a2 b0 b1 b2
    obtain ⟨⟨z2, e⟩, hze⟩ : ∃ p, fitW (x.neg != y.neg) (x.mag * y.mag) = p := ⟨_, rfl⟩
    rw [hze]
    have HZE : Hid (mulW x y = (z2, e)) := hid (by rw [HMW.out, ← hze])
    clear hze
    have f0 := free_of HR5.out 0
    have f1 := free_of HR5.out 1
    have f2 := free_of HR5.out 2
    have c0 := cell_of HR5.out (i := 0) (by rfl)
    have c1 := cell_of HR5.out (i := 1) (by rfl)
    have c2 := cell_of HR5.out (i := 2) (by rfl)
    go_wp2
    (try simp only [Exit.inBlock, Exit.then])
    refine bodyPost_ret (results_ct rfl _ rfl (run_loadVar_row _ sr _ 38 _ _ _ (cells3 (.bool z2.neg) (.int .u64 (z2.hi : Int)) (.int .u64 (z2.lo : Int)) HR5.out) Try.underlying38 rfl (by kernel_rfl))) rfl ?_
    exact ⟨by rw [HZE.out]; rfl, ((HK5.out.setCell_new (p := ⟨sr, 0, none⟩) (by show _ ≤ sr; have := HSR.out; omega) _).setCell_new (p := ⟨sr, 1, none⟩) (by show _ ≤ sr; have := HSR.out; omega) _).setCell_new (p := ⟨sr, 2, none⟩) (by show _ ≤ sr; have := HSR.out; omega) _⟩
end Go.Proofs.Ytjebgidddfamlaa

namespace Go.Proofs.Ytjebgidddfamlaa
open Go.RowKit Go.Proofs.Heap Go.Proofs.Wide

set_option maxRecDepth 20000 in
theorem w_of_below (m : Nat) (h0 : 0 < m) (hm : m ≤ 9223372036854775808) (w : World) : Calls Try.prog 44 #[.int .i64 (-(m : Int))] w fun r w' => r = .returned (WV (ofM true m)) ∧ Keep (fun _ => False) w w' := by
  have hb := heap_alloc_new w (.cells Z3 38)
  have hk := (Keep.refl (fun _ => False) w).alloc (.cells Z3 38)
  have HB0 := hid hb; have HK0 := hid hk
  clear hb hk
  have HN : Hid (normW true 0 m = ofM true m) := hid (by rw [norm_of true (by omega), Nat.zero_mul, Nat.zero_add])
  have HM := hid (w_made true 0 m (by decide) (by omega))
  have e1 : IntKind.u64.wrap (-IntKind.u64.wrap (-(m : Int))) = (m : Int) := by
    have h1 := IntKind.wrap_u64 (-(m : Int))
    have h2 := IntKind.wrap_u64 (-IntKind.u64.wrap (-(m : Int)))
    omega
  go_enter Try.func44, Try.ntmps44
  go_upto_region 1 with fail
  generalize w.alloc (.cells Z3 38) = w0 at *
  generalize hsb : w.heap.size = sb at *
  have g1 : decide (-(m : Int) < 0) = true := decide_eq_true (by omega)
  go_wp2_with fail
  refine (HM.out _).mono ?_
  rw [HN.out]
  rintro r w1 ⟨rfl, hk1⟩
  have HK := hid (HK0.out.trans hk1)
  have HB := hid (hk1.get HB0.out (fun h => h))
  clear hk1
  have c0 := cell_of HB.out (i := 0) (by rfl)
  have c1 := cell_of HB.out (i := 1) (by rfl)
  have c2 := cell_of HB.out (i := 2) (by rfl)
  have f0 := free_of HB.out 0
  have f1 := free_of HB.out 1
  have f2 := free_of HB.out 2
  obtain ⟨z, hz⟩ : ∃ z, ofM true m = z := ⟨_, rfl⟩
  rw [hz]
  have HZ := hid hz
  clear hz
  go_wp2
  (try simp only [Exit.inBlock, Exit.then])
  refine bodyPost_ret (results_c rfl _ rfl (run_loadVar_row _ sb _ 38 _ _ _ (cells3 (.bool z.neg) (.int .u64 (z.hi : Int)) (.int .u64 (z.lo : Int)) HB.out) Try.underlying38 rfl (by kernel_rfl))) rfl ?_
  exact ⟨by rw [HZ.out], ((HK.out.setCell_new (p := ⟨sb, 0, none⟩) (by show _ ≤ sb; omega) _).setCell_new (p := ⟨sb, 1, none⟩) (by show _ ≤ sb; omega) _).setCell_new (p := ⟨sb, 2, none⟩) (by show _ ≤ sb; omega) _⟩
theorem w_ofU (x : Int) (h1 : -9223372036854775808 ≤ x) (h2 : x < 9223372036854775808) (w : World) : Calls Try.prog 44 #[.int .i64 x] w fun r w' => r = .returned (WV (ofM (decide (x < 0)) x.natAbs)) ∧ Keep (fun _ => False) w w' := by
  by_cases h : x < 0
  · rw [decide_eq_true h]
    have := w_of_below x.natAbs (by omega) (by omega) w
    rwa [show -(x.natAbs : Int) = x by omega] at this
  · rw [decide_eq_false h]
    have := w_of x.natAbs (by omega) w
    rw [show (x.natAbs : Int) = x by omega] at this
    rwa [show ofM false x.natAbs = ⟨false, 0, x.natAbs⟩ by unfold ofM; rw [Nat.div_eq_of_lt (by omega), Nat.mod_eq_of_lt (by omega)]; rfl]
end Go.Proofs.Ytjebgidddfamlaa

namespace Go.Proofs.Wide
theorem WI.ext_iff' (a b : WI) : (a.neg = b.neg ∧ a.hi = b.hi ∧ a.lo = b.lo) ↔ a = b := by cases a; cases b; simp
instance : DecidableEq WI := fun a b => decidable_of_iff _ (WI.ext_iff' a b)
end Go.Proofs.Wide
namespace Go.Proofs.Ytjebgidddfamlaa
open Go.RowKit Go.Proofs.Heap Go.Proofs.Sch Go.Proofs.Wide

/-- 1 or 0. -/
def truthW (b : Bool) : WI := if b = true then ofM false 1 else zW
/-- What an instruction makes of the numbers that it takes; its error. -/
def opW (op : Int) (x y z : WI) : WI × Nat :=
  if op = 5 then addW x y else if op = 6 then subW x y else if op = 7 then mulW x y else if op = 8 then quoW x y else if op = 9 then remW x y
  else if op = 10 then (if x.form = true then (negW x, 0) else (zW, 1))
  else if op = 11 then (if x.form = true ∧ y.form = true then (if cmpW x y ≤ 0 then x else y, 0) else (zW, 1))
  else if op = 12 then (if x.form = true ∧ y.form = true then (if 0 ≤ cmpW x y then x else y, 0) else (zW, 1))
  else if op = 13 then (if x.form = true ∧ y.form = true then (truthW (decide (x = y)), 0) else (zW, 1))
  else if op = 14 then (if x.form = true ∧ y.form = true then (truthW (decide (cmpW x y < 0)), 0) else (zW, 1))
  else if op = 15 then (if x.form = true then (truthW (decide (sgnW x = 0)), 0) else (zW, 1))
  else if op = 16 then (if x.form = true then (if sgnW x = 0 then z else y, 0) else (zW, 1))
  else (if y.form = true then (if sgnW y = 0 then (zW, 9) else (x, 0)) else (zW, 1))
/-- An element of a row of rows of numbers. -/
def elemW (fs : List (List WI)) (a b : Int) : WI × Nat :=
  if 0 ≤ a ∧ 0 ≤ b then (match (fs.getD a.toNat [])[b.toNat]? with | some x => (x, 0) | none => (zW, 3)) else (zW, 3)
/-- What an instruction puts that takes nothing; its error. -/
def leafW (fs : List (List WI)) (pl : Int) (x : Ins) : WI × Nat :=
  if x.op = 2 then elemW fs x.a x.b else if x.op = 3 then elemW fs x.a pl else if x.op = 4 then (if pl < 0 then (zW, 3) else (ofM false pl.toNat, 0)) else (x.k, 0)
/-- What an instruction puts, over the numbers that it takes; its error. -/
def insW (fs : List (List WI)) (pl : Int) (x : Ins) (l : List WI) : WI × Nat :=
  if argsN x.op = 0 then leafW fs pl x else opW x.op (l.getD 0 zW) (l.getD 1 zW) (l.getD 2 zW)
/-- The numbers that are there at the end; the error. -/
def runW (fs : List (List WI)) (pl : Int) : List WI → List Ins → List WI × Nat
  | st, [] => (st, 0)
  | st, x :: r => if (insW fs pl x (st.drop (st.length - argsN x.op))).2 = 0 then runW fs pl (st.take (st.length - argsN x.op) ++ [(insW fs pl x (st.drop (st.length - argsN x.op))).1]) r else ([], (insW fs pl x (st.drop (st.length - argsN x.op))).2)
/-- What a formula comes to; its error. -/
def evalW (fs : List (List WI)) (pl : Int) (code : List Ins) : WI × Nat :=
  if exprC code ≠ 0 then (zW, exprC code)
  else if (runW fs pl [] code).2 ≠ 0 then (zW, (runW fs pl [] code).2)
  else if ((runW fs pl [] code).1.getD 0 zW).form = true then ((runW fs pl [] code).1.getD 0 zW, 0) else (zW, 4)

theorem runW_cons (fs : List (List WI)) (pl : Int) (st : List WI) (x : Ins) (r : List Ins) : runW fs pl st (x :: r) = if (insW fs pl x (st.drop (st.length - argsN x.op))).2 = 0 then runW fs pl (st.take (st.length - argsN x.op) ++ [(insW fs pl x (st.drop (st.length - argsN x.op))).1]) r else ([], (insW fs pl x (st.drop (st.length - argsN x.op))).2) := rfl
theorem exprRun_step {n : Nat} {x : Ins} {r : List Ins} (h : exprRun n (x :: r) = 0) : insB x = true ∧ argsN x.op ≤ n ∧ n - argsN x.op + 1 ≤ 16 ∧ exprRun (n - argsN x.op + 1) r = 0 := by
  rw [exprRun_cons] at h
  split at h
  · omega
  next h1 =>
  split at h
  · omega
  next h2 =>
  simp only [not_or, Bool.not_eq_false] at h1
  exact ⟨h1.1, by omega, by omega, h⟩
theorem exprRun_end {n : Nat} (h : exprRun n [] = 0) : n = 1 := by
  unfold exprRun at h
  split at h
  · assumption
  · omega
theorem exprRun_app : ∀ {l r : List Ins} {n : Nat}, exprRun n l = 0 → exprRun n (l ++ r) = exprRun 1 r := by
  intro l
  induction l with
  | nil => intro r n h; rw [exprRun_end h]; rfl
  | cons x l ih =>
    intro r n h
    obtain ⟨h1, h2, h3, h4⟩ := exprRun_step h
    rw [List.cons_append, exprRun_cons, if_neg (by rw [h1]; simp; omega), if_neg (by omega)]
    exact ih h4
theorem exprC_run {code : List Ins} (h : exprC code = 0) : code.length ≤ 64 ∧ exprRun 0 code = 0 := by
  unfold exprC at h
  split at h
  · omega
  · exact ⟨by omega, h⟩
theorem runW_app (fs : List (List WI)) (pl : Int) (r : List Ins) : ∀ (l : List Ins) (st : List WI), runW fs pl st (l ++ r) = if (runW fs pl st l).2 = 0 then runW fs pl (runW fs pl st l).1 r else ([], (runW fs pl st l).2) := by
  intro l
  induction l with
  | nil => intro st; rfl
  | cons x l ih =>
    intro st
    rw [List.cons_append, runW_cons, runW_cons]
    split
    · exact ih _
    · rfl
/-- Behind numbers that are there already a formula does the same. -/
theorem runW_front (fs : List (List WI)) (pl : Int) (s0 : List WI) : ∀ (l : List Ins) (st : List WI), exprRun st.length l = 0 → runW fs pl (s0 ++ st) l = (if (runW fs pl st l).2 = 0 then s0 ++ (runW fs pl st l).1 else [], (runW fs pl st l).2) ∧ ((runW fs pl st l).2 = 0 → (runW fs pl st l).1.length = 1) := by
  intro l
  induction l with
  | nil => intro st h; exact ⟨rfl, fun _ => exprRun_end h⟩
  | cons x l ih =>
    intro st h
    obtain ⟨h1, h2, h3, h4⟩ := exprRun_step h
    have e1 : (s0 ++ st).length - argsN x.op = s0.length + (st.length - argsN x.op) := by rw [List.length_append]; omega
    have e2 : (s0 ++ st).drop (s0.length + (st.length - argsN x.op)) = st.drop (st.length - argsN x.op) := by rw [List.drop_append, List.drop_eq_nil_of_le (by omega)]; simp
    have e3 : (s0 ++ st).take (s0.length + (st.length - argsN x.op)) = s0 ++ st.take (st.length - argsN x.op) := by rw [List.take_append, List.take_of_length_le (by omega)]; simp
    rw [runW_cons, runW_cons, e1, e2, e3]
    split
    next hq =>
      have := ih (st.take (st.length - argsN x.op) ++ [(insW fs pl x (st.drop (st.length - argsN x.op))).1]) (by rw [List.length_append, List.length_take]; simpa [Nat.min_eq_left (Nat.sub_le st.length (argsN x.op))] using h4)
      rw [← List.append_assoc] at this
      exact this
    next hq =>
      exact ⟨rfl, fun h => absurd h hq⟩
/-- What an instruction of two makes of formulas' numbers. -/
theorem opW_form {op : Int} {x y z : WI} (h5 : 5 ≤ op ∧ op ≤ 9) (hx : x.fit) (h : (opW op x y z).2 = 0) : (opW op x y z).1.form = true ∧ x.form = true ∧ y.form = true := by
  have hfit : ∀ ng m, (fitW ng m).2 = 0 → (fitW ng m).1.form = true := by
    intro ng m h
    unfold fitW at h ⊢
    split
    next hm => exact ofM_form ng hm
    next hm => rw [if_neg hm] at h; simp at h
  have hadd : ∀ {x y : WI}, (addW x y).2 = 0 → (addW x y).1.form = true ∧ x.form = true ∧ y.form = true := by
    intro x y h
    unfold addW at h ⊢
    split
    next hf =>
      rw [if_pos hf] at h
      refine ⟨?_, hf.1, hf.2⟩
      split
      next h1 => rw [if_pos h1] at h; exact hfit _ _ h
      next h1 =>
        rw [if_neg h1] at h
        split
        next h2 => rw [if_pos h2] at h; exact hfit _ _ h
        next h2 => rw [if_neg h2] at h; exact hfit _ _ h
    next hf => rw [if_neg hf] at h; simp at h
  have hmf : ∀ {x : WI}, x.fit → x.form = true → x.mag < 170141183460469231731687303715884105728 := fun h h2 => mag_form h h2
  unfold opW at h ⊢
  rcases (show op = 5 ∨ op = 6 ∨ op = 7 ∨ op = 8 ∨ op = 9 by omega) with rfl | rfl | rfl | rfl | rfl
  · simp at h ⊢
    exact hadd h
  · simp at h ⊢
    unfold subW at h ⊢
    split
    next hf => rw [if_pos hf] at h; exact ⟨(hadd h).1, hf⟩
    next hf => rw [if_neg hf] at h; simp at h
  · simp at h ⊢
    unfold mulW at h ⊢
    split
    next hf => rw [if_pos hf] at h; exact ⟨hfit _ _ h, hf⟩
    next hf => rw [if_neg hf] at h; simp at h
  · simp at h ⊢
    unfold quoW at h ⊢
    split
    next hb => rw [if_pos hb] at h; simp at h
    next hb =>
      have hb' := badD_no (Bool.eq_false_iff.2 hb)
      exact ⟨ofM_form _ (Nat.lt_of_le_of_lt (Nat.div_le_self _ _) (hmf hx hb'.1)), hb'.1, hb'.2.1⟩
  · simp at h ⊢
    unfold remW at h ⊢
    split
    next hb => rw [if_pos hb] at h; simp at h
    next hb =>
      have hb' := badD_no (Bool.eq_false_iff.2 hb)
      exact ⟨ofM_form _ (Nat.lt_of_le_of_lt (Nat.mod_le _ _) (hmf hx hb'.1)), hb'.1, hb'.2.1⟩
theorem opW_zero {op : Int} {x y z : WI} (h5 : 5 ≤ op ∧ op ≤ 9) (h : (opW op x y z).2 ≠ 0) : (opW op x y z).1 = zW := by
  have hfit : ∀ ng m, (fitW ng m).2 ≠ 0 → (fitW ng m).1 = zW := by
    intro ng m h
    unfold fitW at h ⊢
    split
    next hm => rw [if_pos hm] at h; simp at h
    next hm => rfl
  have hadd : ∀ {x y : WI}, (addW x y).2 ≠ 0 → (addW x y).1 = zW := by
    intro x y h
    unfold addW at h ⊢
    split
    next hf =>
      rw [if_pos hf] at h
      split
      next h1 => rw [if_pos h1] at h; exact hfit _ _ h
      next h1 =>
        rw [if_neg h1] at h
        split
        next h2 => rw [if_pos h2] at h; exact hfit _ _ h
        next h2 => rw [if_neg h2] at h; exact hfit _ _ h
    next hf => rfl
  unfold opW at h ⊢
  rcases (show op = 5 ∨ op = 6 ∨ op = 7 ∨ op = 8 ∨ op = 9 by omega) with rfl | rfl | rfl | rfl | rfl
  · simp at h ⊢
    exact hadd h
  · simp at h ⊢
    unfold subW at h ⊢
    split
    next hf => rw [if_pos hf] at h; exact hadd h
    next hf => rfl
  · simp at h ⊢
    unfold mulW at h ⊢
    split
    next hf => rw [if_pos hf] at h; exact hfit _ _ h
    next hf => rfl
  · simp at h ⊢
    unfold quoW at h ⊢
    split
    next hb => rfl
    next hb => rw [if_neg hb] at h; simp at h
  · simp at h ⊢
    unfold remW at h ⊢
    split
    next hb => rfl
    next hb => rw [if_neg hb] at h; simp at h
end Go.Proofs.Ytjebgidddfamlaa

namespace Go.Proofs.Ytjebgidddfamlaa
open Go.RowKit Go.Proofs.Heap Go.Proofs.Sch Go.Proofs.Wide

def FitL (l : List WI) : Prop := ∀ x ∈ l, x.fit
def FitF (fs : List (List WI)) : Prop := ∀ l ∈ fs, FitL l
theorem getD_fit {l : List WI} (h : FitL l) (i : Nat) : (l.getD i zW).fit := by
  rw [List.getD_eq_getElem?_getD]
  cases e : l[i]? with
  | none => exact zW_fit
  | some x => exact h x (List.mem_of_getElem? e)
theorem elemW_fit {fs : List (List WI)} (h : FitF fs) (a b : Int) : (elemW fs a b).1.fit := by
  unfold elemW
  split
  · split
    next x e =>
      rw [List.getD_eq_getElem?_getD] at e
      cases e2 : fs[a.toNat]? with
      | none => rw [e2] at e; simp at e
      | some l => rw [e2] at e; exact h l (List.mem_of_getElem? e2) x (List.mem_of_getElem? e)
    · exact zW_fit
  · exact zW_fit
theorem leafW_fit {fs : List (List WI)} (h : FitF fs) {pl : Int} (hp : pl < 9223372036854775808) {x : Ins} (hx : x.k.fit) : (leafW fs pl x).1.fit := by
  unfold leafW
  split
  · exact elemW_fit h _ _
  split
  · exact elemW_fit h _ _
  split
  · split
    · exact zW_fit
    · exact ofM_fit _ (by omega)
  · exact hx
theorem truthW_fit (b : Bool) : (truthW b).fit := by
  cases b
  · exact zW_fit
  · exact ofM_fit _ (by decide)
theorem ite_fit {c : Prop} [Decidable c] {a b : WI × Nat} (ha : a.1.fit) (hb : b.1.fit) : (if c then a else b).1.fit := by
  split <;> assumption
theorem ite_fit1 {c : Prop} [Decidable c] {a b : WI} (ha : a.fit) (hb : b.fit) : (if c then a else b).fit := by
  split <;> assumption
theorem opW_fit {op : Int} {x y z : WI} (hx : x.fit) (hy : y.fit) (hz : z.fit) : (opW op x y z).1.fit := by
  unfold opW
  exact ite_fit (addW_fit _ _) <| ite_fit (subW_fit _ _) <| ite_fit (mulW_fit _ _) <| ite_fit (quoW_fit hx) <| ite_fit (remW_fit hx) <|
    ite_fit (ite_fit (negW_fit hx) zW_fit) <| ite_fit (ite_fit (ite_fit1 hx hy) zW_fit) <| ite_fit (ite_fit (ite_fit1 hx hy) zW_fit) <|
    ite_fit (ite_fit (truthW_fit _) zW_fit) <| ite_fit (ite_fit (truthW_fit _) zW_fit) <| ite_fit (ite_fit (truthW_fit _) zW_fit) <|
    ite_fit (ite_fit (ite_fit1 hz hy) zW_fit) <| ite_fit (ite_fit zW_fit hx) zW_fit
theorem insW_fit {fs : List (List WI)} (h : FitF fs) {pl : Int} (hp : pl < 9223372036854775808) {x : Ins} (hx : x.k.fit) {l : List WI} (hl : FitL l) : (insW fs pl x l).1.fit := by
  unfold insW
  split
  · exact leafW_fit h hp hx
  · exact opW_fit (getD_fit hl 0) (getD_fit hl 1) (getD_fit hl 2)
theorem next_fit {fs : List (List WI)} (h : FitF fs) {pl : Int} (hp : pl < 9223372036854775808) {x : Ins} (hx : x.k.fit) {st : List WI} (hs : FitL st) (i j : Nat) : FitL (st.take i ++ [(insW fs pl x (st.drop j)).1]) := by
  intro y hy
  rcases List.mem_append.1 hy with h1 | h1
  · exact hs y (List.mem_of_mem_take h1)
  · rw [List.mem_singleton.1 h1]
    exact insW_fit h hp hx (fun z hz => hs z (List.mem_of_mem_drop hz))
theorem runW_fit {fs : List (List WI)} (h : FitF fs) {pl : Int} (hp : pl < 9223372036854775808) : ∀ {code : List Ins} {st : List WI}, (∀ x ∈ code, x.k.fit) → FitL st → FitL (runW fs pl st code).1 := by
  intro code
  induction code with
  | nil => intro st _ hs; exact hs
  | cons x r ih =>
    intro st hc hs
    rw [runW_cons]
    split
    · exact ih (fun y hy => hc y (by simp [hy])) (next_fit h hp (hc x (by simp)) hs _ _)
    · intro y hy; simp at hy
theorem evalW_fit {fs : List (List WI)} (h : FitF fs) {pl : Int} (hp : pl < 9223372036854775808) {code : List Ins} (hc : ∀ x ∈ code, x.k.fit) : (evalW fs pl code).1.fit := by
  unfold evalW
  split
  · exact zW_fit
  split
  · exact zW_fit
  split
  · exact getD_fit (runW_fit h hp hc (by intro x hx; simp at hx)) 0
  · exact zW_fit

/-- Whether an instruction uses an element. -/
def hitB (pl : Int) (f k : Nat) (x : Ins) : Bool := decide (x.a = (f : Int)) && (decide (x.op = 2 ∧ x.b = (k : Int)) || decide (x.op = 3 ∧ pl = (k : Int)))
theorem elemW_other {fs : List (List WI)} {f k : Nat} {row : List WI} (v : WI) (hf : fs[f]? = some row) {a b : Int} (h : ¬ (a = (f : Int) ∧ b = (k : Int))) : elemW (fs.set f (row.set k v)) a b = elemW fs a b := by
  unfold elemW
  split
  next hab =>
    have e : ((fs.set f (row.set k v)).getD a.toNat [])[b.toNat]? = (fs.getD a.toNat [])[b.toNat]? := by
      by_cases ha : a.toNat = f
      · have hb : b.toNat ≠ k := fun hb => h ⟨by omega, by omega⟩
        rw [List.getD_eq_getElem?_getD, List.getD_eq_getElem?_getD, ha, List.getElem?_set_self (List.getElem?_eq_some_iff.1 hf).1, hf]
        simp only [Option.getD_some]
        rw [List.getElem?_set_ne (Ne.symm hb)]
      · rw [List.getD_eq_getElem?_getD, List.getD_eq_getElem?_getD, List.getElem?_set_ne (Ne.symm ha)]
    rw [e]
  · rfl
theorem insW_other {fs : List (List WI)} {f k : Nat} {row : List WI} (v : WI) (hf : fs[f]? = some row) {pl : Int} {x : Ins} (h : hitB pl f k x = false) (l : List WI) : insW (fs.set f (row.set k v)) pl x l = insW fs pl x l := by
  unfold insW
  split
  · unfold leafW
    unfold hitB at h
    simp only [Bool.and_eq_false_iff, Bool.or_eq_false_iff, decide_eq_false_iff_not] at h
    split
    next h2 => exact elemW_other v hf (fun hh => by rcases h with h | h; exact h hh.1; exact h.1 ⟨h2, hh.2⟩)
    split
    next h3 => exact elemW_other v hf (fun hh => by rcases h with h | h; exact h hh.1; exact h.2 ⟨h3, hh.2⟩)
    rfl
  · rfl
theorem runW_other {fs : List (List WI)} {f k : Nat} {row : List WI} (v : WI) (hf : fs[f]? = some row) {pl : Int} : ∀ {code : List Ins} {st : List WI}, (∀ x ∈ code, hitB pl f k x = false) → runW (fs.set f (row.set k v)) pl st code = runW fs pl st code := by
  intro code
  induction code with
  | nil => intro st _; rfl
  | cons x r ih =>
    intro st h
    rw [runW_cons, runW_cons, insW_other v hf (h x (by simp)), ih (fun y hy => h y (by simp [hy]))]
/-- What a formula does not use plays no part. -/
theorem evalW_other {fs : List (List WI)} {f k : Nat} {row : List WI} (v : WI) (hf : fs[f]? = some row) {pl : Int} {code : List Ins} (h : ∀ x ∈ usesL code, hitB pl f k x = false) : evalW (fs.set f (row.set k v)) pl code = evalW fs pl code := by
  have h2 : ∀ x ∈ code, hitB pl f k x = false := by
    intro x hx
    by_cases hu : useB x = true
    · exact h x (List.mem_filter.2 ⟨hx, hu⟩)
    · unfold useB at hu
      rw [decide_eq_true_eq] at hu
      unfold hitB
      simp only [Bool.and_eq_false_iff, Bool.or_eq_false_iff, decide_eq_false_iff_not]
      exact .inr ⟨fun hh => hu (.inl hh.1), fun hh => hu (.inr hh.1)⟩
  unfold evalW
  rw [runW_other v hf h2]

theorem evalW_ok {fs : List (List WI)} {pl : Int} {code : List Ins} (hc : exprC code = 0) (h : (evalW fs pl code).2 = 0) : runW fs pl [] code = ([(evalW fs pl code).1], 0) ∧ (evalW fs pl code).1.form = true := by
  have hr := (runW_front fs pl [] code [] (exprC_run hc).2).2
  unfold evalW at h ⊢
  rw [if_neg (by rw [hc]; simp)] at h ⊢
  split at h
  next h1 => exact absurd h h1
  next h1 =>
  have h1' : (runW fs pl [] code).2 = 0 := by omega
  rw [if_neg h1]
  split at h
  next h2 =>
    rw [if_pos h2]
    refine ⟨?_, h2⟩
    have hl := hr h1'
    obtain ⟨l, e⟩ : ∃ l, runW fs pl [] code = l := ⟨_, rfl⟩
    rw [e] at hl h1' ⊢
    obtain ⟨l, n⟩ := l
    simp only at hl h1'
    obtain ⟨y, rfl⟩ := List.length_eq_one_iff.1 hl
    rw [h1']; rfl
  next h2 => simp at h
theorem evalW_no {fs : List (List WI)} {pl : Int} {code : List Ins} (h : (evalW fs pl code).2 ≠ 0) : (evalW fs pl code).1 = zW := by
  unfold evalW at h ⊢
  split
  · rfl
  next h1 =>
  rw [if_neg h1] at h
  split
  · rfl
  next h2 =>
  rw [if_neg h2] at h
  split
  next h3 => rw [if_pos h3] at h; simp at h
  · rfl
/-- A formula of two formulas comes to what its instruction makes of their numbers. -/
theorem evalW_join {fs : List (List WI)} (hfs : FitF fs) {pl : Int} (hp : pl < 9223372036854775808) {a b : List Ins} {y : Ins} (hfa : ∀ x ∈ a, x.k.fit) (hfb : ∀ x ∈ b, x.k.fit) (h5 : 5 ≤ y.op ∧ y.op ≤ 9)
    (ha : exprC a = 0) (hb : exprC b = 0) (hab : exprC (a ++ b ++ [y]) = 0) :
    if (evalW fs pl a).2 = 0 ∧ (evalW fs pl b).2 = 0 then evalW fs pl (a ++ b ++ [y]) = opW y.op (evalW fs pl a).1 (evalW fs pl b).1 zW else (evalW fs pl (a ++ b ++ [y])).2 ≠ 0 ∧ (evalW fs pl (a ++ b ++ [y])).1 = zW := by
  have hargs : argsN y.op = 2 := by unfold argsN; rw [if_neg (by omega), if_neg (by omega), if_neg (by omega)]
  have e0 : runW fs pl [] (a ++ b ++ [y]) = if (runW fs pl [] (a ++ b)).2 = 0 then runW fs pl (runW fs pl [] (a ++ b)).1 [y] else ([], (runW fs pl [] (a ++ b)).2) := runW_app fs pl [y] (a ++ b) []
  have e1 : runW fs pl [] (a ++ b) = if (runW fs pl [] a).2 = 0 then runW fs pl (runW fs pl [] a).1 b else ([], (runW fs pl [] a).2) := runW_app fs pl b a []
  have eb : ∀ s0, runW fs pl s0 b = (if (runW fs pl [] b).2 = 0 then s0 ++ (runW fs pl [] b).1 else [], (runW fs pl [] b).2) := fun s0 => by
    have := (runW_front fs pl s0 b [] (exprC_run hb).2).1
    rwa [List.append_nil] at this
  have eab : evalW fs pl (a ++ b ++ [y]) = if (runW fs pl [] (a ++ b ++ [y])).2 ≠ 0 then (zW, (runW fs pl [] (a ++ b ++ [y])).2) else if ((runW fs pl [] (a ++ b ++ [y])).1.getD 0 zW).form = true then ((runW fs pl [] (a ++ b ++ [y])).1.getD 0 zW, 0) else (zW, 4) := by
    unfold evalW
    rw [if_neg (by rw [hab]; simp)]
  have hbad : (runW fs pl [] (a ++ b ++ [y])).2 ≠ 0 → (evalW fs pl (a ++ b ++ [y])).2 ≠ 0 ∧ (evalW fs pl (a ++ b ++ [y])).1 = zW := by
    intro h
    rw [eab, if_pos h]
    exact ⟨h, rfl⟩
  by_cases hra : (runW fs pl [] a).2 = 0
  rotate_left
  · have hea : (evalW fs pl a).2 ≠ 0 := by
      unfold evalW
      rw [if_neg (by rw [ha]; simp), if_pos hra]
      exact hra
    rw [if_neg (fun h => hea h.1)]
    refine hbad ?_
    rw [e0, e1, if_neg hra, if_neg hra]
    exact hra
  by_cases hrb : (runW fs pl [] b).2 = 0
  rotate_left
  · have heb : (evalW fs pl b).2 ≠ 0 := by
      unfold evalW
      rw [if_neg (by rw [hb]; simp), if_pos hrb]
      exact hrb
    rw [if_neg (fun h => heb h.2)]
    refine hbad ?_
    rw [e0, e1, if_pos hra, eb, if_neg hrb, if_neg hrb]
    exact hrb
  have hla := (runW_front fs pl [] a [] (exprC_run ha).2).2 hra
  have hlb := (runW_front fs pl [] b [] (exprC_run hb).2).2 hrb
  have hfxa := runW_fit hfs hp hfa (st := []) (by intro x hx; simp at hx)
  have hfxb := runW_fit hfs hp hfb (st := []) (by intro x hx; simp at hx)
  obtain ⟨u, hu⟩ := List.length_eq_one_iff.1 hla
  obtain ⟨v, hv⟩ := List.length_eq_one_iff.1 hlb
  rw [hu] at hfxa
  rw [hv] at hfxb
  have hfu : u.fit := hfxa u (by simp)
  have hfv : v.fit := hfxb v (by simp)
  have eva : evalW fs pl a = if u.form = true then (u, 0) else (zW, 4) := by
    unfold evalW
    rw [if_neg (by rw [ha]; simp), if_neg (by rw [hra]; simp), hu]
    rfl
  have evb : evalW fs pl b = if v.form = true then (v, 0) else (zW, 4) := by
    unfold evalW
    rw [if_neg (by rw [hb]; simp), if_neg (by rw [hrb]; simp), hv]
    rfl
  have er : runW fs pl [] (a ++ b ++ [y]) = if (opW y.op u v zW).2 = 0 then ([(opW y.op u v zW).1], 0) else ([], (opW y.op u v zW).2) := by
    have e2 : runW fs pl [] (a ++ b) = ([u, v], 0) := by
      rw [e1, if_pos hra, eb, if_pos hrb, hu, hv, hrb]
      rfl
    rw [e0, e2, if_pos rfl, runW_cons]
    have e3 : insW fs pl y (List.drop (List.length [u, v] - argsN y.op) [u, v]) = opW y.op u v zW := by
      unfold insW
      rw [hargs, if_neg (by omega)]
      rfl
    have e4 : List.take (List.length [u, v] - argsN y.op) [u, v] = [] := by rw [hargs]; rfl
    rw [show (([u, v], 0) : List WI × Nat).1 = [u, v] from rfl, e3, e4]
    rfl
  by_cases hop : (opW y.op u v zW).2 = 0
  · obtain ⟨g1, g2, g3⟩ := opW_form h5 hfu hop
    rw [eva, evb, if_pos g2, if_pos g3, if_pos ⟨rfl, rfl⟩, eab, er, if_pos hop, if_neg (by simp)]
    exact (if_pos g1).trans (Prod.ext rfl hop.symm)
  · have h1 := hbad (by rw [er, if_neg hop]; exact hop)
    by_cases hf : u.form = true ∧ v.form = true
    · rw [eva, evb, if_pos hf.1, if_pos hf.2, if_pos ⟨rfl, rfl⟩, eab, er, if_neg hop, if_pos hop]
      exact Prod.ext (opW_zero h5 hop).symm rfl
    · rw [if_neg]
      · exact h1
      · rw [eva, evb]
        rintro ⟨h2, h3⟩
        refine hf ⟨?_, ?_⟩
        · by_cases h : u.form = true
          · exact h
          · rw [if_neg h] at h2; simp at h2
        · by_cases h : v.form = true
          · exact h
          · rw [if_neg h] at h3; simp at h3
end Go.Proofs.Ytjebgidddfamlaa

namespace Go.Proofs.Ytjebgidddfamlaa
open Go.RowKit Go.Proofs.Heap Go.Proofs.Sch Go.Proofs.Wide

/-- Numbers all nought, for each field as many as its count. -/
def zeroF (fs : List Fld) : List (List WI) := fs.map (fun g => List.replicate g.count.toNat zW)
theorem errU_all {old : Cmp} {f : Fld} : ∀ {l : List Ins}, errU old f l = 0 → ∀ x ∈ l, useC old f x = 0
  | [], _, x, hx => by simp at hx
  | y :: r, h, x, hx => by
    unfold errU at h
    split at h
    next h1 =>
      rcases List.mem_cons.1 hx with rfl | hx
      · exact h1
      · exact errU_all h x hx
    next h1 => exact absurd h h1
theorem formC_zero {old : Cmp} {f : Fld} {code : List Ins} (h : formC old f code = 0) : exprC code = 0 ∧ ∀ x ∈ usesL code, useC old f x = 0 := by
  unfold formC at h
  split at h
  next h1 =>
    split at h
    next h2 => exact ⟨h1, errU_all h2⟩
    next h2 => exact absurd h h2
  next h1 => exact absurd h h1
theorem zW_form : zW.form = true := by decide
theorem negW_form {x : WI} (hx : x.fit) (h : x.form = true) : (negW x).form = true := by
  unfold negW
  rw [if_pos h]
  exact ofM_form _ (mag_form hx h)
theorem truthW_form (b : Bool) : (truthW b).form = true := by
  cases b
  · exact zW_form
  · exact ofM_form _ (by decide)
def FormL (l : List WI) : Prop := ∀ x ∈ l, x.fit ∧ x.form = true
theorem getD_form {l : List WI} (h : FormL l) (i : Nat) : (l.getD i zW).fit ∧ (l.getD i zW).form = true := by
  rw [List.getD_eq_getElem?_getD]
  cases e : l[i]? with
  | none => exact ⟨zW_fit, zW_form⟩
  | some x => exact h x (List.mem_of_getElem? e)
/-- Told to fail, or a number in form. -/
def SafeW (r : WI × Nat) : Prop := r.2 = 9 ∨ (r.2 = 0 ∧ r.1.fit ∧ r.1.form = true)
theorem safe_ite {c : Prop} [Decidable c] {a b : WI × Nat} (ha : SafeW a) (hb : SafeW b) : SafeW (if c then a else b) := by
  split <;> assumption
theorem safe_ok {z : WI} (h1 : z.fit) (h2 : z.form = true) : SafeW (z, 0) := .inr ⟨rfl, h1, h2⟩
theorem opW_safe {op : Int} (h1 : ¬ (5 ≤ op ∧ op ≤ 9)) {x y z : WI} (hx : x.fit ∧ x.form = true) (hy : y.fit ∧ y.form = true) (hz : z.fit ∧ z.form = true) : SafeW (opW op x y z) := by
  unfold opW
  rw [if_neg (by omega), if_neg (by omega), if_neg (by omega), if_neg (by omega), if_neg (by omega)]
  have it : ∀ {c : Prop} [Decidable c] {a b : WI}, (a.fit ∧ a.form = true) → (b.fit ∧ b.form = true) → SafeW (if c then a else b, 0) := fun ha hb => by
    split
    · exact safe_ok ha.1 ha.2
    · exact safe_ok hb.1 hb.2
  have ps : ∀ {c : Prop} [Decidable c] {a b : WI × Nat}, c → SafeW a → SafeW (if c then a else b) := fun hc h => by
    rw [if_pos hc]; exact h
  exact safe_ite (ps hx.2 (safe_ok (negW_fit hx.1) (negW_form hx.1 hx.2))) <| safe_ite (ps ⟨hx.2, hy.2⟩ (it hx hy)) <| safe_ite (ps ⟨hx.2, hy.2⟩ (it hx hy)) <|
    safe_ite (ps ⟨hx.2, hy.2⟩ (safe_ok (truthW_fit _) (truthW_form _))) <| safe_ite (ps ⟨hx.2, hy.2⟩ (safe_ok (truthW_fit _) (truthW_form _))) <| safe_ite (ps hx.2 (safe_ok (truthW_fit _) (truthW_form _))) <|
    safe_ite (ps hx.2 (it hz hy)) <| ps hy.2 (safe_ite (.inl rfl) (safe_ok hx.1 hx.2))
theorem elem_safe {fs : List Fld} {a b : Int} (ha : 0 ≤ a) (hb : 0 ≤ b) {g : Fld} (hg : fs[a.toNat]? = some g) (hlt : b < g.count) : SafeW (elemW (zeroF fs) a b) := by
  unfold elemW
  rw [if_pos ⟨ha, hb⟩]
  have e : (zeroF fs).getD a.toNat [] = List.replicate g.count.toNat zW := by
    unfold zeroF
    rw [List.getD_eq_getElem?_getD, List.getElem?_map, hg]; rfl
  rw [e, List.getElem?_replicate, if_pos (by omega)]
  exact safe_ok zW_fit zW_form
theorem leaf_safe {old : Cmp} {f : Fld} {pl : Int} (h0 : 0 ≤ pl) (h1 : pl < f.count) (hp : pl < 9223372036854775808) {x : Ins} (hi : insB x = true) (hk : x.k.fit) (hu : useB x = true → useC old f x = 0) : SafeW (leafW (zeroF old.fs) pl x) := by
  obtain ⟨ha, hb, hkf⟩ := insB_a hi
  have use : useB x = true → ∃ g, old.fs[x.a.toNat]? = some g ∧ ¬ ((x.op = 2 ∧ g.count ≤ x.b) ∨ (x.op = 3 ∧ g.count < f.count)) := by
    intro h
    have h2 := hu h
    unfold useC at h2
    cases e : old.fs[x.a.toNat]? with
    | none => rw [e] at h2; simp at h2
    | some g =>
      rw [e] at h2
      simp only at h2
      refine ⟨g, rfl, fun hc => ?_⟩
      rw [if_pos hc] at h2
      omega
  unfold leafW
  split
  next h2 =>
    obtain ⟨g, hg, hn⟩ := use (by unfold useB; rw [decide_eq_true_iff]; exact .inl h2)
    exact elem_safe ha.1 hb.1 hg (by omega)
  split
  next h2 h3 =>
    obtain ⟨g, hg, hn⟩ := use (by unfold useB; rw [decide_eq_true_iff]; exact .inr h3)
    exact elem_safe ha.1 h0 hg (by omega)
  split
  · rw [if_neg (by omega)]
    exact safe_ok (ofM_fit _ (by omega)) (ofM_form _ (by omega))
  · exact safe_ok hk hkf
theorem run_safe {old : Cmp} {f : Fld} {pl : Int} (h0 : 0 ≤ pl) (h1 : pl < f.count) (hp : pl < 9223372036854775808) : ∀ {code : List Ins} {st : List WI}, (∀ x ∈ code, insB x = true ∧ x.k.fit ∧ ¬ (5 ≤ x.op ∧ x.op ≤ 9) ∧ (useB x = true → useC old f x = 0)) → FormL st →
    (runW (zeroF old.fs) pl st code).2 = 9 ∨ ((runW (zeroF old.fs) pl st code).2 = 0 ∧ FormL (runW (zeroF old.fs) pl st code).1) := by
  intro code
  induction code with
  | nil => intro st _ hs; exact .inr ⟨rfl, hs⟩
  | cons x r ih =>
    intro st hc hs
    obtain ⟨hi, hk, hn, hu⟩ := hc x (by simp)
    have hsf : SafeW (insW (zeroF old.fs) pl x (st.drop (st.length - argsN x.op))) := by
      unfold insW
      have hd : FormL (st.drop (st.length - argsN x.op)) := fun y hy => hs y (List.mem_of_mem_drop hy)
      split
      · exact leaf_safe h0 h1 hp hi hk hu
      · exact opW_safe hn (getD_form hd 0) (getD_form hd 1) (getD_form hd 2)
    rw [runW_cons]
    rcases hsf with h9 | ⟨hz, hft, hfm⟩
    · rw [if_neg (by rw [h9]; simp)]
      exact .inl h9
    · rw [if_pos hz]
      refine ih (fun y hy => hc y (by simp [hy])) (fun y hy => ?_)
      rcases List.mem_append.1 hy with h | h
      · exact hs y (List.mem_of_mem_take h)
      · rw [List.mem_singleton.1 h]; exact ⟨hft, hfm⟩
/-- A formula that is right finds all its elements. -/
theorem enough {old : Cmp} {f : Fld} {code : List Ins} (hf : formC old f code = 0) (hfit : ∀ x ∈ code, x.k.fit) (hno : ∀ x ∈ code, ¬ (5 ≤ x.op ∧ x.op ≤ 9)) {pl : Int} (h0 : 0 ≤ pl) (h1 : pl < f.count) (hp : pl < 9223372036854775808) :
    (evalW (zeroF old.fs) pl code).2 = 0 ∨ (evalW (zeroF old.fs) pl code).2 = 9 := by
  obtain ⟨hz, hu⟩ := formC_zero hf
  have hall := (exprC_all hz).2.2
  have hr := run_safe (old := old) (f := f) h0 h1 hp (code := code) (st := []) (fun x hx => ⟨hall x hx, hfit x hx, hno x hx, fun h => hu x (List.mem_filter.2 ⟨hx, h⟩)⟩) (by intro x hx; simp at hx)
  unfold evalW
  rw [if_neg (by rw [hz]; simp)]
  rcases hr with h9 | ⟨hz2, hfl⟩
  · rw [if_pos (by rw [h9]; simp)]
    exact .inr h9
  · rw [if_neg (by rw [hz2]; simp), if_pos (getD_form hfl 0).2]
    exact .inl rfl
end Go.Proofs.Ytjebgidddfamlaa
