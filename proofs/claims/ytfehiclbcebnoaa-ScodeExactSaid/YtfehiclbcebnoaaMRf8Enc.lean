/- What is proved: what the reference's Encode answers for a schema that can be: the program's bytes. -/
import Derived.Test.YtfehiclbcebnoaaMSchCheck
import Derived.Test.YtfehiclbcebnoaaMScPts4
import Derived.Test.YtfehiclbcebnoaaMUnpack
import Derived.Test.YtfehiclbcebnoaaMLay2
import Derived.Test.YtfehiclbcebnoaaMHeap
namespace Go.Proofs.Ytfehiclbcebnoaa
open Go.RowKit Go.Proofs.Heap Go.Proofs.Sch

theorem byte_leL {a : Nat} (h : a < 256) : (leL 1 a).map byteV = [.int .u8 (a : Int)] := by
  show [byteV (UInt8.ofNat a)] = _
  unfold byteV
  rw [UInt8.toNat_ofNat', Nat.mod_eq_of_lt h]
theorem bytes_leL {a b : Nat} (h : a < 256) (h2 : b < 256) : (leL 1 a ++ leL 1 b).map byteV = [.int .u8 (a : Int), .int .u8 (b : Int)] := by
  rw [List.map_append, byte_leL h, byte_leL h2]; rfl
theorem wrap8 {a : Nat} (h : a < 256) : IntKind.u8.wrap (a : Int) = (a : Int) := by simp [IntKind.wrap, IntKind.bits, IntKind.signed]; omega
theorem head_leL {n k : Nat} (hn : n < 4294967296) (hk : k < 256) : (leL 1 83 ++ leL 4 n ++ leL 1 k).map byteV = [.int .u8 83, .int .u8 ((n % 256 : Nat) : Int), .int .u8 ((n / 256 % 256 : Nat) : Int), .int .u8 ((n / 65536 % 256 : Nat) : Int), .int .u8 ((n / 16777216 : Nat) : Int), .int .u8 (k : Int)] := by
  rw [List.map_append, List.map_append, byte_leL hk]
  show [byteV 83] ++ [byteV (UInt8.ofNat n), byteV (UInt8.ofNat (n / 256)), byteV (UInt8.ofNat (n / 256 / 256)), byteV (UInt8.ofNat (n / 256 / 256 / 256))] ++ _ = _
  unfold byteV
  simp only [UInt8.toNat_ofNat', Nat.div_div_eq_div_mul]
  rw [Nat.mod_eq_of_lt (show n / (256 * 256 * 256) < 2 ^ 8 by omega)]
  rfl

set_option maxRecDepth 20000 in
set_option maxHeartbeats 32000000 in
theorem r_encode8 (v : Int) (cs : List Cmp) (p : Option Addr) (cap : Nat) (w : World) (hz : checkC v cs = 0) (hc : CP w w.heap.size p cs) :
    Calls Try.prog 10 #[.agg #[.int .i64 v, .slice p cs.length cap]] w fun r w' => r = .returned (.string (bsB (schL v cs))) ∧ Keep (fun _ => False) w w' := by
  obtain ⟨i0, hi0, hz0, hz1, hz2⟩ := info_parts' info_u8L
  have HOK := hid (sch_ok hz)
  obtain ⟨n, rfl⟩ := Int.eq_ofNat_of_zero_le (a := v) (by have := HOK.out.1; omega)
  obtain ⟨w1, hw1, hb1, hs1, hk1⟩ := box1 w #[.int .i64 (n : Int), .slice p cs.length cap] 24
  have HK1 := hid hk1; have HS1 := hid hb1
  have HC0 := hid hc
  have hnb : n ≤ 1073741824 := by have := HOK.out.1; omega
  have h24 : cs.length ≤ 24 := HOK.out.2.1
  have c0 := cell_of hb1 (i := 0) (by rfl)
  have c1 := cell_of hb1 (i := 1) (by rfl)
  have HLE : Hid (w.heap.size < w1.heap.size) := hid (by omega)
  clear hb1 hs1 hk1 hc hz
  go_enter Try.func10, Try.ntmps10
  go_upto_region 1 with fail
  rw [← hw1]
  clear hw1
  obtain ⟨sb, hsb⟩ : ∃ sb, w.heap.size = sb := ⟨_, rfl⟩
  have HSB := hid hsb
  rw [hsb] at HS1 HLE c0 c1 ⊢
  clear hsb
  obtain ⟨B, hB⟩ : ∃ B, w1.heap.size = B := ⟨_, rfl⟩
  have HBW := hid hB
  have HLB : Hid (sb < B) := hid (by have := HLE.out; omega)
  obtain ⟨m0, hm0⟩ : ∃ m : Nat, n % 256 = m := ⟨_, rfl⟩
  obtain ⟨m1, hm1⟩ : ∃ m : Nat, n / 256 % 256 = m := ⟨_, rfl⟩
  obtain ⟨m2, hm2⟩ : ∃ m : Nat, n / 65536 % 256 = m := ⟨_, rfl⟩
  obtain ⟨m3, hm3⟩ : ∃ m : Nat, n / 16777216 = m := ⟨_, rfl⟩
  have l0 : m0 < 256 := by omega
  have l1 : m1 < 256 := by omega
  have l2 : m2 < 256 := by omega
  have l3 : m3 < 256 := by omega
  have t0 : (n : Int).tmod 256 = (m0 : Int) := by rw [Int.tmod_eq_emod_of_nonneg (by omega)]; omega
  have t1 : ((n : Int).tdiv 256).tmod 256 = (m1 : Int) := by rw [Int.tdiv_eq_ediv_of_nonneg (by omega), Int.tmod_eq_emod_of_nonneg (by omega)]; omega
  have t2 : ((n : Int).tdiv 65536).tmod 256 = (m2 : Int) := by rw [Int.tdiv_eq_ediv_of_nonneg (by omega), Int.tmod_eq_emod_of_nonneg (by omega)]; omega
  have t3 : (n : Int).tdiv 16777216 = (m3 : Int) := by rw [Int.tdiv_eq_ediv_of_nonneg (by omega)]; omega
  have t5 : (n : Int) / 256 % 256 = (m1 : Int) := by omega
  have t6 : (n : Int) / 65536 % 256 = (m2 : Int) := by omega
  have u0 := wrap8 l0
  have u1 := wrap8 l1
  have u2 := wrap8 l2
  have u3 := wrap8 l3
  have u4 := wrap8 (show cs.length < 256 by omega)
  obtain ⟨w2, hw2, hb2, hs2, hk2⟩ := box1 w1 #[.int .u8 83, .int .u8 (m0 : Int), .int .u8 (m1 : Int), .int .u8 (m2 : Int), .int .u8 (m3 : Int), .int .u8 (cs.length : Int)] 5
  have HS2 := hid (hk2.get HS1.out id)
  have HK2 : Hid (Keep (fun g => B ≤ g) w1 w2) := hid (hk2.mono (fun _ _ h => h.elim))
  have HO2 : Hid (w2.ownsRow B 5 1 (.slice (some ⟨B, 0, none⟩) 6 6) 6 ((leL 1 83 ++ leL 4 n ++ leL 1 cs.length).map byteV)) := hid (by
    rw [head_leL (by omega) (by omega), hm0, hm1, hm2, hm3, hw2, ← hB]
    exact World.ownsRow_lit (size := 1) w1 #[.int .u8 83, .int .u8 (m0 : Int), .int .u8 (m1 : Int), .int .u8 (m2 : Int), .int .u8 (m3 : Int), .int .u8 (cs.length : Int)] 6 (Nat.le_refl _) (by unfold maxLen; omega) (by rfl))
  clear hb2 hs2 hk2
  go_upto_region 3 with fail
  rw [← hw2]
  (try rw [hB])
  clear hw2 hB hm0 hm1 hm2 hm3 t0 t1 t2 t3 t5 t6 u0 u1 u2 u3 u4 l0 l1 l2 l3 c0 c1
  obtain ⟨T, hT⟩ : ∃ T, leL 1 83 ++ leL 4 n ++ leL 1 cs.length = T := ⟨_, rfl⟩
  have HTL : Hid (T.length = 6) := hid (by rw [← hT]; simp [leL_len])
  have HTE : Hid (T ++ cs.flatMap cmpL = schL (n : Int) cs) := hid (by rw [← hT]; unfold schL; rw [u64N_nat (by omega)])
  rw [hT] at HO2
  clear hT
  go_wp2_with fail
  go_loopw [4, 5, 6, 7, 8] (fun o i _ _ _ wr => ∃ (k N : Nat) (a : Option Addr) (c : Nat), k ≤ cs.length ∧ i = iV k ∧ o = .slice a N c ∧ (T ++ (cs.take k).flatMap cmpL).length = N ∧ wr.ownsRow B 5 1 (.slice a N c) N ((T ++ (cs.take k).flatMap cmpL).map byteV) ∧ Keep (fun g => B ≤ g) w1 wr) (fun _ i _ _ _ _ => cs.length + 1 - (RowKit.intOf i).toNat)
  case atStart => exact ⟨0, 6, _, _, Nat.zero_le _, rfl, rfl, by simpa using HTL.out, by simpa using HO2.out, HK2.out⟩
  case round =>
    obtain ⟨k, N, a, cc, hk, rfl, rfl, hlen, how, hkr⟩ := hrel
    have HOwr := hid how; have HKwr := hid hkr; have HLEN := hid hlen
    have HSwr := hid (hkr.get HS1.out (by have := HLB.out; omega))
    have HKF := hid (keep_new HK1.out hkr (fun j e => by have := HLB.out; have := HSB.out; omega))
    clear how hkr hlen
    have d0 := cell_of HSwr.out (i := 1) (by rfl)
    by_cases hlt : k < cs.length
    · obtain ⟨c, hx⟩ : ∃ c, cs[k]? = some c := ⟨cs[k], by simp [hlt]⟩
      have HX := hid (flat_next cmpL hx)
      obtain ⟨b, off, fp, fc, rfl, hb, e0', e1', e2', e3⟩ := CP.at HC0.out hx
      have e0 := ((Low.keep0 HKF.out).cell hb).trans e0'
      have e1 := ((Low.keep0 HKF.out).cell hb).trans e1'
      have e2 := ((Low.keep0 HKF.out).cell hb).trans e2'
      have HCO := hid (HOK.out.2.2 c (List.mem_of_getElem? hx))
      have HFP0 := hid e3.2
      have HNL : Hid (N ≤ 4000) := hid (by
        have h := flat_le cmpL 140 (l := cs.take k) (fun g hg => by
          have := HOK.out.2.2 g (List.mem_of_mem_take hg)
          exact cmpL_len this.2.1 this.2.2.1 (fun f hf => (this.2.2.2 f hf).1))
        have h1 := HLEN.out
        have h2 := HTL.out
        rw [List.length_append] at h1
        rw [List.length_take] at h
        have : min k cs.length * 140 ≤ 24 * 140 := Nat.mul_le_mul_right _ (by omega)
        omega)
      have hin : (0 : Int) ≤ (k : Int) ∧ (k : Int) < (cs.length : Int) := ⟨by omega, by omega⟩
      clear hx hb e3 e0' e1' e2'
      obtain ⟨wx, hwx, hbx, hsx, hkx⟩ := box1 wr #[.int .i64 c.id, .string c.name, .slice fp c.fs.length fc] 52
      have HCwx := hid hbx
      have HOwx := hid (owns_keep HOwr.out (fun j hj => hkx.block j (HOwr.out.lt j hj).2 id))
      have HKwx := hid (HKwr.out.trans (hkx.mono (T := fun g => B ≤ g) (fun _ _ h => h.elim)))
      have HFP := hid (fun (wy : World) (h : Keep (fun g => B ≤ g) w1 wy) => FP.low HFP0.out (Low.keep0 (keep_new HK1.out h (fun j e => by have := HLB.out; have := HSB.out; omega))))
      clear hbx hsx hkx
      go_upto_region 7 with fail
      rw [← hwx]
      clear hwx d0 e0 e1 e2
      generalize wr.heap.size = xb at *
      obtain ⟨id, nm, fs⟩ := c
      (try simp only at HCwx HFP HX HCO ⊢)
      obtain ⟨i, rfl⟩ := Int.eq_ofNat_of_zero_le (a := id) (by have := HCO.out.1; (try simp only at this); omega)
      have hi24 : i ≤ 24 := by have := HCO.out.1; (try simp only at this); omega
      have hns := nameB_size HCO.out.2.1
      have hfl := HCO.out.2.2.1
      (try simp only at hns hfl)
      have u0 := wrap8 (show i < 256 by omega)
      have u1 := wrap8 (show nm.size < 256 by omega)
      have u2 := wrap8 (show fs.length < 256 by omega)
      have y0 := cell_of HCwx.out (i := 0) (by rfl)
      have y1 := cell_of HCwx.out (i := 1) (by rfl)
      have hN := HNL.out
      obtain ⟨L0, hL0⟩ : ∃ L0, T ++ (cs.take k).flatMap cmpL = L0 := ⟨_, rfl⟩
      rw [hL0] at HOwx HLEN
      have HL0 := hid hL0
      clear hL0 HFP0 HOwr
      obtain ⟨wb, hwb, hbb, hsb, hkb⟩ := box1 wx #[.int .u8 (i : Int), .int .u8 (nm.size : Int)] 5
      have HOb := hid (owns_keep HOwx.out (fun j hj => hkb.block j (HOwx.out.lt j hj).2 id))
      have HKb := hid (HKwx.out.trans (hkb.mono (T := fun g => B ≤ g) (fun _ _ h => h.elim)))
      have HCb := hid (hkb.get HCwx.out id)
      have HBb := hid hbb
      clear hbb hsb hkb
      go_wp2_with (at_builtin; rw [← hwb]; refine wpList_append_rd rfl (.tmp 42) (.tmp 50) _ rfl B _ i0 _ 1 1 Try.underlying42 hi0 hz0 hz1 hz2 rfl (by decide) _ N _ (by rfl) HOb.out _ 2 [.int .u8 (i : Int), .int .u8 (nm.size : Int)] (by rfl) (rd_block HBb.out (by simp) (by simp [Value.oneCell'])) (by unfold maxLen; omega) (by omega) (by have := HKb.out.size; have := HBW.out; omega) ?_)
      intro v' wn hown hgrow hat hn
      rw [← hwb] at hgrow
      clear hwb
      obtain ⟨nwa, hnwa⟩ : ∃ k, N + 2 = k := ⟨_, rfl⟩
      rw [hnwa] at hown
      obtain ⟨pwa, cwa, rfl⟩ := owns_val hown
      have HOwa : Hid (wn.ownsRow B 5 1 (.slice pwa nwa cwa) nwa ((L0 ++ (leL 1 i ++ leL 1 nm.size)).map byteV)) := hid (by
        rw [List.map_append]; rw [bytes_leL (by omega) (by omega)]
        exact hown)
      have HKwa := hid (Keep.grown HKb.out hgrow (fun k hk => .inr (HOb.out.lt k hk).1))
      have HCwa := hid ((hgrow.block _ (lt_of_heap HCb.out) (fun e => owns_ne HOb.out HCb.out (by decide) e.symm)).trans HCb.out)
      have HNwa := hid hnwa
      clear hown hgrow hat HOb HKb HCb hn HBb
      generalize wn = wa at *
      obtain ⟨Lwa, hLwa⟩ : ∃ L, L0 ++ (leL 1 i ++ leL 1 nm.size) = L := ⟨_, rfl⟩
      rw [hLwa] at HOwa
      have HLwa := hid hLwa
      clear hLwa
      clear y0 y1
      have y1 := cell_of HCwa.out (i := 1) (by rfl)
      have hna := HNwa.out
      have HOb := HOwa
      have HKb := HKwa
      have HCb := HCwa
      go_wp2_with (at_builtin; refine wpList_append_str rfl (.tmp 52) (.tmp 54) 42 9 rfl B 5 i0 Try.underlying42 Try.underlying9 hi0 hz0 hz1 hz2 _ nwa _ (by rfl) HOb.out nm (by rfl) (by omega) (by have := HKb.out.size; have := HBW.out; omega) ?_)
      intro v' wn hown hgrow hat
      obtain ⟨nwc, hnwc⟩ : ∃ k, nwa + nm.size = k := ⟨_, rfl⟩
      rw [hnwc] at hown
      obtain ⟨pwc, cwc, rfl⟩ := owns_val hown
      have HOwc : Hid (wn.ownsRow B 5 1 (.slice pwc nwc cwc) nwc ((Lwa ++ nm.data.toList).map byteV)) := hid (by
        rw [List.map_append]; 
        exact hown)
      have HKwc := hid (Keep.grown HKb.out hgrow (fun k hk => .inr (HOb.out.lt k hk).1))
      have HCwc := hid ((hgrow.block _ (lt_of_heap HCb.out) (fun e => owns_ne HOb.out HCb.out (by decide) e.symm)).trans HCb.out)
      have HNwc := hid hnwc
      clear hown hgrow hat HOb HKb HCb
      generalize wn = wc at *
      obtain ⟨Lwc, hLwc⟩ : ∃ L, Lwa ++ nm.data.toList = L := ⟨_, rfl⟩
      rw [hLwc] at HOwc
      have HLwc := hid hLwc
      clear hLwc
      clear y1
      have y2 := cell_of HCwc.out (i := 2) (by rfl)
      have hnc := HNwc.out
      obtain ⟨wb, hwb, hbb, hsb, hkb⟩ := box1 wc #[.int .u8 (fs.length : Int)] 5
      have HOb := hid (owns_keep HOwc.out (fun j hj => hkb.block j (HOwc.out.lt j hj).2 id))
      have HKb := hid (HKwc.out.trans (hkb.mono (T := fun g => B ≤ g) (fun _ _ h => h.elim)))
      have HCb := hid (hkb.get HCwc.out id)
      have HBb := hid hbb
      clear hbb hsb hkb
      go_wp2_with (at_builtin; rw [← hwb]; refine wpList_append_rd rfl (.tmp 56) (.tmp 61) _ rfl B _ i0 _ 1 1 Try.underlying42 hi0 hz0 hz1 hz2 rfl (by decide) _ nwc _ (by rfl) HOb.out _ 1 [.int .u8 (fs.length : Int)] (by rfl) (rd_block HBb.out (by simp) (by simp [Value.oneCell'])) (by unfold maxLen; omega) (by omega) (by have := HKb.out.size; have := HBW.out; omega) ?_)
      intro v' wn hown hgrow hat hn
      rw [← hwb] at hgrow
      clear hwb
      obtain ⟨nwd, hnwd⟩ : ∃ k, nwc + 1 = k := ⟨_, rfl⟩
      rw [hnwd] at hown
      obtain ⟨pwd, cwd, rfl⟩ := owns_val hown
      have HOwd : Hid (wn.ownsRow B 5 1 (.slice pwd nwd cwd) nwd ((Lwc ++ leL 1 fs.length).map byteV)) := hid (by
        rw [List.map_append]; rw [byte_leL (by omega)]
        exact hown)
      have HKwd := hid (Keep.grown HKb.out hgrow (fun k hk => .inr (HOb.out.lt k hk).1))
      have HCwd := hid ((hgrow.block _ (lt_of_heap HCb.out) (fun e => owns_ne HOb.out HCb.out (by decide) e.symm)).trans HCb.out)
      have HNwd := hid hnwd
      clear hown hgrow hat HOb HKb HCb hn HBb
      generalize wn = wd at *
      obtain ⟨Lwd, hLwd⟩ : ∃ L, Lwc ++ leL 1 fs.length = L := ⟨_, rfl⟩
      rw [hLwd] at HOwd
      have HLwd := hid hLwd
      clear hLwd
      have hnd := HNwd.out
      clear y2 u0 u1 u2
      have HL1 : Hid (L0 ++ (leL 1 i ++ leL 1 nm.size) ++ nm.data.toList ++ leL 1 fs.length = Lwd) := hid (by rw [← HLwd.out, ← HLwc.out, ← HLwa.out])
      generalize Lwd = L1 at *
      go_wp2_with fail
      go_loopw [4, 7, 8] (fun o j _ wy => ∃ (jj M : Nat) (a : Option Addr) (c : Nat), jj ≤ fs.length ∧ j = iV jj ∧ o = .slice a M c ∧ M ≤ nwd + jj * 15 ∧ wy.ownsRow B 5 1 (.slice a M c) M ((L1 ++ (fs.take jj).flatMap fldL).map byteV) ∧ Keep (fun g => B ≤ g) w1 wy ∧ wy.heap[xb]? = some (.cells #[.int .i64 (i : Int), .string nm, .slice fp fs.length fc] 52 (0, 0))) (fun _ j _ _ => fs.length + 1 - (RowKit.intOf j).toNat)
      case atStart => exact ⟨0, nwd, _, _, Nat.zero_le _, rfl, rfl, by omega, by simpa using HOwd.out, HKwd.out, HCwd.out⟩
      case round =>
        obtain ⟨jj, M, a, cc, hj, rfl, rfl, hM, how, hkr, hcb⟩ := hrel
        have HOwr := hid how; have HKwr := hid hkr; have HCwr := hid hcb; have HMM := hid hM
        clear how hkr hcb hM
        have y2 := cell_of HCwr.out (i := 2) (by rfl)
        by_cases hjt : jj < fs.length
        · obtain ⟨f, hx⟩ : ∃ f, fs[jj]? = some f := ⟨fs[jj], by simp [hjt]⟩
          have HXF := hid (flat_next fldL hx)
          obtain ⟨b2, off2, rfl, hb2, e0, e1, e2⟩ := FP.at (HFP.out wr HKwr.out) hx
          have HFO := hid (HCO.out.2.2.2 f (List.mem_of_getElem? hx))
          have hin2 : (0 : Int) ≤ (jj : Int) ∧ (jj : Int) < (fs.length : Int) := ⟨by omega, by omega⟩
          clear hx hb2
          obtain ⟨wx, hwx, hbx, hsx, hkx⟩ := box1 wr #[.string f.name, .int .i64 f.kind, .int .i64 f.count] 49
          have HGwx := hid hbx
          have HCwx := hid (hkx.get HCwr.out id)
          have HOwx := hid (owns_keep HOwr.out (fun j hj => hkx.block j (HOwr.out.lt j hj).2 id))
          have HKwx := hid (HKwr.out.trans (hkx.mono (T := fun g => B ≤ g) (fun _ _ h => h.elim)))
          clear hbx hsx hkx
          go_upto_region 14 with fail
          rw [← hwx]
          clear hwx y2 e0 e1 e2
          generalize wr.heap.size = gb at *
          obtain ⟨fn, kd, ct⟩ := f
          (try simp only at HGwx HXF HFO ⊢)
          obtain ⟨kn, rfl⟩ := Int.eq_ofNat_of_zero_le (a := kd) (by have := kind_small HFO.out.2; (try simp only at this); omega)
          obtain ⟨cn, rfl⟩ := Int.eq_ofNat_of_zero_le (a := ct) (by have := HFO.out.2.2; (try simp only at this); omega)
          have hk256 : kn < 256 := by have := kind_small HFO.out.2; (try simp only at this); omega
          have hc256 : cn < 256 := by have := HFO.out.2.2; (try simp only at this); omega
          have hns := nameB_size HFO.out.1
          (try simp only at hns)
          have u0 := wrap8 hk256
          have u1 := wrap8 (show fn.size < 256 by omega)
          have u2 := wrap8 hc256
          have z0 := cell_of HGwx.out (i := 0) (by rfl)
          have hM := HMM.out
          have hnd := HNwd.out; have hnc := HNwc.out; have hna := HNwa.out; have hN := HNL.out; have hfl := HCO.out.2.2.1
          (try simp only at hfl)
          have HNM : Hid (M ≤ 4200) := hid (by omega)
          clear hM hnd hnc hna hN
          have hM := HNM.out
          obtain ⟨L2, hL2⟩ : ∃ L2, L1 ++ (fs.take jj).flatMap fldL = L2 := ⟨_, rfl⟩
          rw [hL2] at HOwx
          have HL2 := hid hL2
          clear hL2
          obtain ⟨wb, hwb, hbb, hsb, hkb⟩ := box1 wx #[.int .u8 (fn.size : Int)] 5
          have HOb := hid (owns_keep HOwx.out (fun j hj => hkb.block j (HOwx.out.lt j hj).2 id))
          have HKb := hid (HKwx.out.trans (hkb.mono (T := fun g => B ≤ g) (fun _ _ h => h.elim)))
          have HCb := hid (hkb.get HCwx.out id)
          have HGb := hid (hkb.get HGwx.out id)
          have HBb := hid hbb
          clear hbb hsb hkb
          go_wp2_with (at_builtin; rw [← hwb]; refine wpList_append_rd rfl (.tmp 75) (.tmp 80) _ rfl B _ i0 _ 1 1 Try.underlying42 hi0 hz0 hz1 hz2 rfl (by decide) _ M _ (by rfl) HOb.out _ 1 [.int .u8 (fn.size : Int)] (by rfl) (rd_block HBb.out (by simp) (by simp [Value.oneCell'])) (by unfold maxLen; omega) (by omega) (by have := HKb.out.size; have := HBW.out; omega) ?_)
          intro v' wn hown hgrow hat hn
          rw [← hwb] at hgrow
          clear hwb
          obtain ⟨nwe, hnwe⟩ : ∃ k, M + 1 = k := ⟨_, rfl⟩
          rw [hnwe] at hown
          obtain ⟨pwe, cwe, rfl⟩ := owns_val hown
          have HOwe : Hid (wn.ownsRow B 5 1 (.slice pwe nwe cwe) nwe ((L2 ++ leL 1 fn.size).map byteV)) := hid (by
            rw [List.map_append]; rw [byte_leL (by omega)]
            exact hown)
          have HKwe := hid (Keep.grown HKb.out hgrow (fun k hk => .inr (HOb.out.lt k hk).1))
          have HCwe := hid ((hgrow.block _ (lt_of_heap HCb.out) (fun e => owns_ne HOb.out HCb.out (by decide) e.symm)).trans HCb.out)
          have HGwe := hid ((hgrow.block _ (lt_of_heap HGb.out) (fun e => owns_ne HOb.out HGb.out (by decide) e.symm)).trans HGb.out)
          have HNwe := hid hnwe
          clear hown hgrow hat HOb HKb HCb HGb hn HBb
          generalize wn = we at *
          obtain ⟨Lwe, hLwe⟩ : ∃ L, L2 ++ leL 1 fn.size = L := ⟨_, rfl⟩
          rw [hLwe] at HOwe
          have HLwe := hid hLwe
          clear hLwe
          clear z0
          have z0 := cell_of HGwe.out (i := 0) (by rfl)
          have hne := HNwe.out
          have HOb := HOwe
          have HKb := HKwe
          have HCb := HCwe
          have HGb := HGwe
          go_wp2_with (at_builtin; refine wpList_append_str rfl (.tmp 82) (.tmp 84) 42 9 rfl B 5 i0 Try.underlying42 Try.underlying9 hi0 hz0 hz1 hz2 _ nwe _ (by rfl) HOb.out fn (by rfl) (by omega) (by have := HKb.out.size; have := HBW.out; omega) ?_)
          intro v' wn hown hgrow hat
          obtain ⟨nwf, hnwf⟩ : ∃ k, nwe + fn.size = k := ⟨_, rfl⟩
          rw [hnwf] at hown
          obtain ⟨pwf, cwf, rfl⟩ := owns_val hown
          have HOwf : Hid (wn.ownsRow B 5 1 (.slice pwf nwf cwf) nwf ((Lwe ++ fn.data.toList).map byteV)) := hid (by
            rw [List.map_append]; 
            exact hown)
          have HKwf := hid (Keep.grown HKb.out hgrow (fun k hk => .inr (HOb.out.lt k hk).1))
          have HCwf := hid ((hgrow.block _ (lt_of_heap HCb.out) (fun e => owns_ne HOb.out HCb.out (by decide) e.symm)).trans HCb.out)
          have HGwf := hid ((hgrow.block _ (lt_of_heap HGb.out) (fun e => owns_ne HOb.out HGb.out (by decide) e.symm)).trans HGb.out)
          have HNwf := hid hnwf
          clear hown hgrow hat HOb HKb HCb HGb
          generalize wn = wf at *
          obtain ⟨Lwf, hLwf⟩ : ∃ L, Lwe ++ fn.data.toList = L := ⟨_, rfl⟩
          rw [hLwf] at HOwf
          have HLwf := hid hLwf
          clear hLwf
          clear z0
          have z1 := cell_of HGwf.out (i := 1) (by rfl)
          have z2 := cell_of HGwf.out (i := 2) (by rfl)
          have hnf := HNwf.out
          obtain ⟨wb, hwb, hbb, hsb, hkb⟩ := box1 wf #[.int .u8 (kn : Int), .int .u8 (cn : Int)] 5
          have HOb := hid (owns_keep HOwf.out (fun j hj => hkb.block j (HOwf.out.lt j hj).2 id))
          have HKb := hid (HKwf.out.trans (hkb.mono (T := fun g => B ≤ g) (fun _ _ h => h.elim)))
          have HCb := hid (hkb.get HCwf.out id)
          have HGb := hid (hkb.get HGwf.out id)
          have HBb := hid hbb
          clear hbb hsb hkb
          go_wp2_with (at_builtin; rw [← hwb]; refine wpList_append_rd rfl (.tmp 86) (.tmp 93) _ rfl B _ i0 _ 1 1 Try.underlying42 hi0 hz0 hz1 hz2 rfl (by decide) _ nwf _ (by rfl) HOb.out _ 2 [.int .u8 (kn : Int), .int .u8 (cn : Int)] (by rfl) (rd_block HBb.out (by simp) (by simp [Value.oneCell'])) (by unfold maxLen; omega) (by omega) (by have := HKb.out.size; have := HBW.out; omega) ?_)
          intro v' wn hown hgrow hat hn
          rw [← hwb] at hgrow
          clear hwb
          obtain ⟨nwg, hnwg⟩ : ∃ k, nwf + 2 = k := ⟨_, rfl⟩
          rw [hnwg] at hown
          obtain ⟨pwg, cwg, rfl⟩ := owns_val hown
          have HOwg : Hid (wn.ownsRow B 5 1 (.slice pwg nwg cwg) nwg ((Lwf ++ (leL 1 kn ++ leL 1 cn)).map byteV)) := hid (by
            rw [List.map_append]; rw [bytes_leL (by omega) (by omega)]
            exact hown)
          have HKwg := hid (Keep.grown HKb.out hgrow (fun k hk => .inr (HOb.out.lt k hk).1))
          have HCwg := hid ((hgrow.block _ (lt_of_heap HCb.out) (fun e => owns_ne HOb.out HCb.out (by decide) e.symm)).trans HCb.out)
          have HGwg := hid ((hgrow.block _ (lt_of_heap HGb.out) (fun e => owns_ne HOb.out HGb.out (by decide) e.symm)).trans HGb.out)
          have HNwg := hid hnwg
          clear hown hgrow hat HOb HKb HCb HGb hn HBb
          generalize wn = wg at *
          obtain ⟨Lwg, hLwg⟩ : ∃ L, Lwf ++ (leL 1 kn ++ leL 1 cn) = L := ⟨_, rfl⟩
          rw [hLwg] at HOwg
          have HLwg := hid hLwg
          clear hLwg
          clear z1 z2 u0 u1 u2
          have HLG : Hid (Lwg = L1 ++ (fs.take (jj + 1)).flatMap fldL) := hid (by
            rw [HXF.out, ← HLwg.out, ← HLwf.out, ← HLwe.out, ← HL2.out]
            unfold fldL nameL
            simp only [List.append_assoc, u64N_nat (show kn < 18446744073709551616 by omega), u64N_nat (show cn < 18446744073709551616 by omega)])
          rw [HLG.out] at HOwg
          have HMX : Hid (nwg ≤ nwd + (jj + 1) * 15) := hid (by have h1 := HMM.out; have h2 := HNwe.out; have h3 := HNwf.out; have h4 := HNwg.out; omega)
          clear hM hne hnf hfl hns hk256 hc256
          go_wp2
          go_roundw
          case rel => exact ⟨jj + 1, nwg, _, _, by omega, by go_num, rfl, HMX.out, HOwg.out, HKwg.out, HCwg.out⟩
          case measure => simp [RowKit.intOf]; omega
        · obtain rfl : jj = fs.length := by omega
          have g1 : decide ((fs.length : Int) < (fs.length : Int)) = false := decide_eq_false (by omega)
          have HLE2 : Hid (L1 ++ (fs.take fs.length).flatMap fldL = T ++ (cs.take (k + 1)).flatMap cmpL) := hid (by
            rw [HX.out, List.take_length, ← HL1.out, ← HL0.out]
            unfold cmpL nameL
            simp only [List.append_assoc, u64N_nat (show i < 18446744073709551616 by omega)])
          have HOE := HOwr
          rw [HLE2.out] at HOE
          have HLM : Hid ((T ++ (cs.take (k + 1)).flatMap cmpL).length = M) := hid (by
            have h := HOE.out.1
            rw [List.length_map, Nat.mul_one] at h
            exact h)
          go_wp2
          go_roundw
          case rel => exact ⟨k + 1, M, _, _, by omega, by go_num, rfl, HLM.out, HOE.out, HKwr.out⟩
          case measure => simp [RowKit.intOf]; omega
    · obtain rfl : k = cs.length := by omega
      have g1 : decide ((cs.length : Int) < (cs.length : Int)) = false := decide_eq_false (by omega)
      have hcv := run_row_string HLEN.out HOwr.out
      rw [List.take_length, HTE.out] at hcv
      go_wp2
      go_ret
      exact ⟨rfl, HKF.out⟩
end Go.Proofs.Ytfehiclbcebnoaa

namespace Go.Proofs.Ytfehiclbcebnoaa
open Go.RowKit Go.Proofs.Heap Go.Proofs.Sch

/-- A reader at a place of bytes. -/
def atS (L : List UInt8) (a : Nat) : St := (bsB (L.drop a), false)
theorem rdN_at {L : List UInt8} {a wd : Nat} (h : a + wd ≤ L.length) : rdN wd (atS L a) = (leN ((L.drop a).take wd), atS L (a + wd)) := by
  unfold rdN atS
  rw [if_pos ⟨rfl, by rw [bs_size, List.length_drop]; omega⟩, bs_drop, List.drop_drop]
  unfold firstN
  rw [bs_list]
theorem rdN_short {L : List UInt8} {a wd : Nat} (h : L.length < a + wd) (h0 : 1 ≤ wd) : (rdN wd (atS L a)).2.2 = true := by
  unfold rdN atS
  rw [if_neg (by
    rintro ⟨_, h2⟩
    rw [bs_size, List.length_drop] at h2
    omega)]
theorem rdN_bad {wd : Nat} {st : St} (h : st.2 = true) : (rdN wd st).2 = st := by
  unfold rdN
  rw [if_neg (by rw [h]; simp)]
  exact Prod.ext rfl h.symm
theorem rdNm_bad {st : St} (h : st.2 = true) : (rdNm st).2 = st := by
  unfold rdNm
  rw [if_neg (by rw [h]; simp)]
  exact Prod.ext rfl h.symm
theorem rd_byte {L : List UInt8} {a : Nat} {b : UInt8} (h : L[a]? = some b) : rdN 1 (atS L a) = (b.toNat, atS L (a + 1)) := by
  have hl := (List.getElem?_eq_some_iff.1 h).1
  rw [rdN_at (by omega), drop_next h, List.take_succ_cons, List.take_zero, leN, leN]
  rfl
theorem rdNm_at {L : List UInt8} {a : Nat} {b : UInt8} (h : L[a]? = some b) (hl : a + 1 + b.toNat ≤ L.length) : rdNm (atS L a) = (bsB ((L.drop (a + 1)).take b.toNat), atS L (a + 1 + b.toNat)) := by
  have hl0 := (List.getElem?_eq_some_iff.1 h).1
  have hf : firstN (bsB (L.drop a)) 1 = b.toNat := by
    unfold firstN
    rw [bs_list, drop_next h, List.take_succ_cons, List.take_zero, leN, leN]; rfl
  unfold rdNm atS
  rw [if_pos ⟨rfl, by
    unfold nmOk
    simp only [hf, bs_size, List.length_drop]
    omega⟩]
  simp only [hf, bs_drop, List.drop_drop]
  rw [bs_ext, List.drop_drop, Nat.add_sub_cancel_left, Nat.add_assoc]
theorem rdNm_short {L : List UInt8} {a : Nat} (h : L.length ≤ a ∨ ∃ b : UInt8, L[a]? = some b ∧ L.length < a + 1 + b.toNat) : (rdNm (atS L a)).2.2 = true := by
  unfold rdNm atS
  rw [if_neg]
  rintro ⟨_, h1, h2⟩
  simp only [bs_size, List.length_drop] at h1 h2
  rcases h with h | ⟨b, hb, h⟩
  · omega
  · have hl0 := (List.getElem?_eq_some_iff.1 hb).1
    have hf : firstN (bsB (L.drop a)) 1 = b.toNat := by
      unfold firstN
      rw [bs_list, drop_next hb, List.take_succ_cons, List.take_zero, leN, leN]; rfl
    rw [hf] at h2
    omega
end Go.Proofs.Ytfehiclbcebnoaa

namespace Go.Proofs.Ytfehiclbcebnoaa
open Go.RowKit Go.Proofs.Heap Go.Proofs.Sch

theorem rdF_bad {st : St} (h : st.2 = true) : (rdF st).2 = st := by
  show (rdN 1 (rdN 1 (rdNm st).2).2).2 = st
  rw [rdNm_bad h, rdN_bad h, rdN_bad h]
theorem rdC_end (st : St) : (rdC st).2 = (rdRow rdF (rdN 1 (rdNm (rdN 1 st).2).2).1 (rdN 1 (rdNm (rdN 1 st).2).2).2).2 := rfl
theorem rdC_bad1 {st : St} (h : (rdN 1 st).2.2 = true) : (rdC st).2.2 = true := by
  rw [rdC_end, rdNm_bad h, rdN_bad h, rdRow_bad _ _ h]; exact h
theorem rdC_bad2 {st : St} (h : (rdNm (rdN 1 st).2).2.2 = true) : (rdC st).2.2 = true := by
  rw [rdC_end, rdN_bad h, rdRow_bad _ _ h]; exact h
theorem rdC_bad3 {st : St} (h : (rdN 1 (rdNm (rdN 1 st).2).2).2.2 = true) : (rdC st).2.2 = true := by
  rw [rdC_end, rdRow_bad _ _ h]; exact h
/-- A row that is broken off within. -/
theorem row_bad {α : Type} (f : St → α × St) {n k : Nat} {st st0 : St} {out : List α} (hk : k < n) (hr : rdRow f n st0 = (out ++ (rdRow f (n - k) st).1, (rdRow f (n - k) st).2)) (h0 : st.2 = false) (h : (f st).2.2 = true) : (rdRow f n st0).2.2 = true := by
  rw [hr]
  show (rdRow f (n - k) st).2.2 = true
  rw [show n - k = (n - (k + 1)) + 1 by omega, rdRow_next f _ h0]
  show (rdRow f (n - (k + 1)) (f st).2).2.2 = true
  rw [rdRow_bad f _ h]
  exact h
theorem noZ {s : ByteArray} (h : (partsZ s).st.2 = true) : goodZ s = false := by
  unfold goodZ; rw [h]; simp
theorem noZ1 {s : ByteArray} (h : (partsZ s).m ≠ 83) : goodZ s = false := by
  unfold goodZ; rw [decide_eq_false h]; simp
theorem noZ2 {s : ByteArray} (h : (partsZ s).st.1.size ≠ 0) : goodZ s = false := by
  unfold goodZ; rw [decide_eq_false h]; simp
theorem zeroZ {s : ByteArray} (h : goodZ s = false) : decV s = 0 ∧ decC s = [] := by
  unfold decV decC; rw [h]; exact ⟨rfl, rfl⟩
theorem at_zero (s : ByteArray) : ((s, false) : St) = atS s.data.toList 0 := by unfold atS; rw [List.drop_zero, bs_of]
theorem partsZ_end (s : ByteArray) : (partsZ s).st = (rdRow rdC (rdN 1 (rdN 4 (rdN 1 (s, false)).2).2).1 (rdN 1 (rdN 4 (rdN 1 (s, false)).2).2).2).2 := rfl
theorem shortZ {s : ByteArray} (h : s.size < 6) : goodZ s = false := by
  refine noZ ?_
  rw [partsZ_end]
  have hl : s.data.toList.length = s.size := Array.length_toList
  by_cases h1 : (rdN 1 (s, false)).2.2 = true
  · rw [rdN_bad h1, rdN_bad h1, rdRow_bad _ _ h1]; exact h1
  · by_cases h2 : (rdN 4 (rdN 1 (s, false)).2).2.2 = true
    · rw [rdN_bad h2, rdRow_bad _ _ h2]; exact h2
    · have h3 : (rdN 1 (rdN 4 (rdN 1 (s, false)).2).2).2.2 = true := by
        rw [at_zero] at h1 h2 ⊢
        by_cases g1 : 0 + 1 ≤ s.data.toList.length
        · rw [rdN_at g1] at h2 ⊢
          by_cases g2 : 0 + 1 + 4 ≤ s.data.toList.length
          · rw [rdN_at g2] at h2 ⊢
            exact rdN_short (by omega) (by omega)
          · exact absurd (rdN_short (by omega) (by omega)) h2
        · exact absurd (rdN_short (by omega) (by omega)) h1
      rw [rdRow_bad _ _ h3]; exact h3
theorem rdF_bad1 {st : St} (h : (rdNm st).2.2 = true) : (rdF st).2.2 = true := by
  show (rdN 1 (rdN 1 (rdNm st).2).2).2.2 = true
  rw [rdN_bad h, rdN_bad h]; exact h
theorem rdF_bad2 {L : List UInt8} {a b : Nat} {t : ByteArray} (h : rdNm (atS L a) = (t, atS L b)) (hb : L.length < b + 2) : (rdF (atS L a)).2.2 = true := by
  show (rdN 1 (rdN 1 (rdNm (atS L a)).2).2).2.2 = true
  rw [h]
  show (rdN 1 (rdN 1 (atS L b)).2).2.2 = true
  by_cases h1 : b + 1 ≤ L.length
  · rw [rdN_at h1]
    exact rdN_short (by omega) (by omega)
  · have h2 := rdN_short (L := L) (a := b) (wd := 1) (by omega) (by omega)
    rw [rdN_bad h2]; exact h2
theorem rdF_ok {L : List UInt8} {a b : Nat} {t : ByteArray} {x y : UInt8} (h : rdNm (atS L a) = (t, atS L b)) (hx : L[b]? = some x) (hy : L[b + 1]? = some y) : rdF (atS L a) = (⟨t, x.toNat, y.toNat⟩, atS L (b + 2)) := by
  have e2 : rdN 1 (atS L (b + 1)) = _ := rd_byte hy
  unfold rdF
  simp only [h, rd_byte hx, e2]
/-- What the reference's text answers of bytes at a place. -/
def TxO (L : List UInt8) (a : Nat) (r : Ending) : Prop :=
  (∃ t : ByteArray, r = .returned (.tuple #[.string t, .int .i64 ((a + 1 + t.size : Nat) : Int)]) ∧ rdNm (atS L a) = (t, atS L (a + 1 + t.size)) ∧ a + 1 + t.size ≤ L.length ∧ t.size < 256) ∨
  (r = .returned (.tuple #[.string ⟨#[]⟩, .int .i64 (-1)]) ∧ (rdNm (atS L a)).2.2 = true)
end Go.Proofs.Ytfehiclbcebnoaa

namespace Go.Proofs.Ytfehiclbcebnoaa
open Go.RowKit Go.Proofs.Heap Go.Proofs.Sch

set_option maxRecDepth 20000 in
set_option maxHeartbeats 8000000 in
theorem r_text8 (s : ByteArray) (a : Nat) (w : World) (hs : s.size ≤ 1000000) (ha : a ≤ 1000000) :
    Calls Try.prog 30 #[.string s, .int .i64 (a : Int)] w fun r w' => TxO s.data.toList a r ∧ w = w' := by
  obtain ⟨L, hL⟩ : ∃ L, s.data.toList = L := ⟨_, rfl⟩
  have HLX : Hid (s = bsB L) := hid (by rw [← hL, bs_of])
  have HLL : Hid (L.length = s.size) := hid (by rw [← hL]; exact Array.length_toList)
  have HAT : Hid (∀ j (h : j < s.size), L[j]? = some (s[j]'h)) := hid (fun j h => by rw [← hL, Array.getElem?_toList]; exact Array.getElem?_eq_getElem h)
  rw [hL]
  clear hL
  go_enter Try.func30, Try.ntmps30
  have g0 : decide ((a : Int) < 0) = false := decide_eq_false (by omega)
  by_cases h1 : s.size ≤ a
  · have g1 : decide ((s.size : Int) ≤ (a : Int)) = true := decide_eq_true (by omega)
    have g2 : decide (s.size ≤ a) = true := decide_eq_true h1
    have HE : Hid (TxO L a (.returned (.tuple #[.string ⟨#[]⟩, .int .i64 (-1)]))) := hid (.inr ⟨rfl, rdNm_short (.inl (by rw [HLL.out]; exact h1))⟩)
    clear h1
    go_wp2
    (try simp only [Exit.inBlock, Exit.then])
    refine bodyPost_ret (results_2z rfl _) rfl ?_
    exact ⟨HE.out, rfl⟩
  have g1 : decide ((s.size : Int) ≤ (a : Int)) = false := decide_eq_false (by omega)
  have g2 : decide (s.size ≤ a) = false := decide_eq_false h1
  have hlt : a < s.size := by omega
  clear h1
  obtain ⟨b, hb⟩ : ∃ b, (s[a]'hlt).toNat = b := ⟨_, rfl⟩
  have hb' : b < 256 := by rw [← hb]; exact (s[a]'hlt).toNat_lt
  have hin : (0 : Int) ≤ (a : Int) ∧ (a : Int) < (s.size : Int) := ⟨by omega, by omega⟩
  have HBA : Hid (L[a]? = some (s[a]'hlt)) := hid (HAT.out a hlt)
  have HB := hid hb
  by_cases h2 : s.size < a + 1 + b
  · have f1 : decide ((s.size : Int) < (a : Int) + 1 + (b : Int)) = true := decide_eq_true (by omega)
    have HE : Hid (TxO L a (.returned (.tuple #[.string ⟨#[]⟩, .int .i64 (-1)]))) := hid (.inr ⟨rfl, rdNm_short (.inr ⟨_, HBA.out, by rw [HLL.out, HB.out]; exact h2⟩)⟩)
    clear h2
    go_wp2
    (try simp only [Exit.inBlock, Exit.then])
    refine bodyPost_ret (results_2z rfl _) rfl ?_
    exact ⟨HE.out, rfl⟩
  have f1 : decide ((s.size : Int) < (a : Int) + 1 + (b : Int)) = false := decide_eq_false (by omega)
  have hsl : (0 : Int) ≤ (a : Int) + 1 ∧ (a : Int) + 1 ≤ (a : Int) + 1 + (b : Int) ∧ (a : Int) + 1 + (b : Int) ≤ (s.size : Int) := ⟨by omega, by omega, by omega⟩
  obtain ⟨t, ht⟩ : ∃ t, s.extract (a + 1) (a + 1 + b) = t := ⟨_, rfl⟩
  have HE : Hid (TxO L a (.returned (.tuple #[.string t, .int .i64 ((a + 1 + b : Nat) : Int)]))) := hid (by
    have hts : t.size = b := by rw [← ht, ByteArray.size_extract]; omega
    refine .inl ⟨t, by rw [hts], ?_, by rw [hts, HLL.out]; omega, by omega⟩
    rw [rdNm_at HBA.out (by rw [HLL.out, HB.out]; omega), HB.out, hts, ← ht]
    refine Prod.ext ?_ rfl
    show _ = s.extract (a + 1) (a + 1 + b)
    rw [HLX.out, bs_ext, Nat.add_sub_cancel_left])
  clear h2
  go_wp2
  (try simp only [Exit.inBlock, Exit.then])
  refine bodyPost_ret (results_2z rfl _) rfl ?_
  refine ⟨?_, rfl⟩
  have h := HE.out
  rw [← ht] at h
  rw [show ((a + 1 + b : Nat) : Int) = (a : Int) + 1 + (b : Int) by omega] at h
  exact h
end Go.Proofs.Ytfehiclbcebnoaa

namespace Go.Proofs.Ytfehiclbcebnoaa
open Go.RowKit Go.Proofs.Heap Go.Proofs.Sch

/-- An element's cells. -/
def ecl (e : Int × Nat) : List Value := [.int .i64 e.1, iV e.2]
/-- The elements of a field that begins at a. -/
def eAdd (k : Int) (a sz n : Nat) : List (Int × Nat) := (List.range n).map (fun j => (k, a + sz * j))
def eStep (st : Nat × List (Int × Nat)) (f : Fld) : Nat × List (Int × Nat) := (upN st.1 (szN f.kind) + szN f.kind * f.count.toNat, st.2 ++ eAdd f.kind (upN st.1 (szN f.kind)) (szN f.kind) f.count.toNat)
/-- All elements of fields. -/
def eRun (fs : List Fld) : List (Int × Nat) := (fs.foldl eStep (0, [])).2

theorem eAdd_zero (k : Int) (a sz : Nat) : eAdd k a sz 0 = [] := rfl
theorem eAdd_next (k : Int) (a sz n : Nat) : eAdd k a sz (n + 1) = eAdd k a sz n ++ [(k, a + sz * n)] := by
  unfold eAdd; rw [List.range_succ, List.map_append]; rfl
theorem eAdd_len (k : Int) (a sz n : Nat) : (eAdd k a sz n).length = n := by simp [eAdd]
theorem eFold_at : ∀ (fs : List Fld) (a g : Nat) (es : List (Int × Nat)) (ss : List Nat), (fs.foldl eStep (a, es)).1 = (fs.foldl pStep (a, g, ss)).1
  | [], _, _, _, _ => rfl
  | f :: r, a, g, es, ss => by
    rw [List.foldl_cons, List.foldl_cons]
    exact eFold_at r _ _ _ _
theorem eRun_next {fs : List Fld} {k : Nat} {f : Fld} (h : fs[k]? = some f) : eRun (fs.take (k + 1)) = eRun (fs.take k) ++ eAdd f.kind (upN (pRun (fs.take k)).1 (szN f.kind)) (szN f.kind) f.count.toNat := by
  unfold eRun pRun
  rw [take_next h, List.foldl_append, List.foldl_cons, List.foldl_nil]
  unfold eStep
  rw [← eFold_at (fs.take k) 0 1 [] []]
  rfl
theorem eRun_len : ∀ (fs : List Fld), (eRun fs).length = sumN fs := by
  have key : ∀ (fs : List Fld) (st : Nat × List (Int × Nat)), (fs.foldl eStep st).2.length = st.2.length + sumN fs := by
    intro fs
    induction fs with
    | nil => intro st; simp [sumN]
    | cons f r ih =>
      intro st
      rw [List.foldl_cons, ih]
      simp only [eStep, List.length_append, eAdd_len, sumN]
      omega
  intro fs
  have := key fs (0, [])
  simpa [eRun] using this

/-- The multiple that is met first. -/
theorem upN_meet {a s x : Nat} (hs : 1 ≤ s) (h1 : a ≤ x) (h2 : x ≤ upN a s) (h3 : x % s = 0) : x = upN a s := by
  have hd := Nat.div_add_mod (a + s - 1) s
  have hm := Nat.mod_lt (a + s - 1) (show 0 < s by omega)
  have hx := Nat.div_add_mod x s
  have e : upN a s = s * ((a + s - 1) / s) := by unfold upN; rw [Nat.mul_comm]
  rw [e] at h2 ⊢
  rw [h3] at hx
  generalize (a + s - 1) / s = q at *
  generalize x / s = t at *
  have h4 : s * t < s * q + s → t < q + 1 := fun h => Nat.lt_of_mul_lt_mul_left (a := s) (by rw [Nat.mul_add]; omega)
  have h5 : s * q < s * t + s → q < t + 1 := fun h => Nat.lt_of_mul_lt_mul_left (a := s) (by rw [Nat.mul_add]; omega)
  have : t = q := by
    have h6 := h4 (by omega)
    have h7 := h5 (by omega)
    omega
  subst this
  omega
theorem upN_dvd (a s : Nat) : upN a s % s = 0 := by unfold upN; exact Nat.mul_mod_left ..
theorem upN_ge {a s : Nat} (hs : 1 ≤ s) : a ≤ upN a s := by
  have hd := Nat.div_add_mod (a + s - 1) s
  have hm := Nat.mod_lt (a + s - 1) (show 0 < s by omega)
  unfold upN
  rw [Nat.mul_comm]
  omega

/-- The reference's two rows under way: the elements, where fields begin. -/
structure LY (w : World) (v6 v7 : Value) (es : List (Int × Nat)) (ss : List Nat) (y : World) : Prop where
  keep : Keep (fun _ => False) w y
  o6 : y.ownsRow w.heap.size 93 2 v6 es.length (es.flatMap ecl)
  o7 : y.ownsRow w.heap.size 3 1 v7 ss.length (ss.map iV)
  dis : ∀ g, v6.ownBlock = some g → v7.ownBlock = some g → False
/-- A field's box beside them. -/
structure LB (v6 v7 : Value) (bx : Nat) (f : Fld) (y : World) : Prop where
  box : y.heap[bx]? = some (.cells #[.string f.name, .int .i64 f.kind, .int .i64 f.count] 49 (0, 0))
  n6 : v6.ownBlock ≠ some bx
  n7 : v7.ownBlock ≠ some bx

section
variable {w y y' : World} {v6 v7 v' : Value} {es : List (Int × Nat)} {ss : List Nat} {bx : Nat} {f : Fld}
theorem LY.keep0 (h : LY w v6 v7 es ss y) (hk : Keep (fun _ => False) y y') : LY w v6 v7 es ss y' :=
  ⟨h.keep.trans hk, owns_keep h.o6 (fun q hq => hk.block q (h.o6.lt q hq).2 id), owns_keep h.o7 (fun q hq => hk.block q (h.o7.lt q hq).2 id), h.dis⟩
theorem LB.keep0 (h : LB v6 v7 bx f y) (hk : Keep (fun _ => False) y y') : LB v6 v7 bx f y' := ⟨hk.get h.box id, h.n6, h.n7⟩
theorem LY.newBox (h : LY w v6 v7 es ss y) (f : Fld) : LB v6 v7 y.heap.size f (y.alloc (.cells #[.string f.name, .int .i64 f.kind, .int .i64 f.count] 49)) :=
  ⟨heap_alloc_new y _, fun e => by have := (h.o6.lt _ e).2; omega, fun e => by have := (h.o7.lt _ e).2; omega⟩
theorem LY.app6 (h : LY w v6 v7 es ss y) (hb : LB v6 v7 bx f y) {e : Int × Nat} (hown : y'.ownsRow w.heap.size 93 2 v' (es.length + 1) (es.flatMap ecl ++ ecl e)) (hg : y.grownBy y' v6.ownBlock) (ha : v'.ownBlock = v6.ownBlock ∨ v'.ownBlock = some y.heap.size) :
    LY w v' v7 (es ++ [e]) ss y' ∧ LB v' v7 bx f y' := by
  have hk : Keep (fun q => v6.ownBlock = some q) y y' := (Keep.refl _ y).grown hg (fun k hk => .inr hk)
  refine ⟨⟨h.keep.trans' hk (fun i hi e => by have := (h.o6.lt _ e).1; omega), by simpa using hown, owns_keep h.o7 (fun q hq => hk.block q (h.o7.lt q hq).2 (fun e => h.dis q e hq)), fun g h1 h2 => ?_⟩, hk.get hb.box hb.n6, fun e => ?_, hb.n7⟩
  · rcases ha with ha | ha
    · exact h.dis g (ha ▸ h1) h2
    · rw [ha] at h1
      injection h1 with h1
      have := (h.o7.lt g h2).2
      omega
  · rcases ha with ha | ha
    · exact hb.n6 (ha ▸ e)
    · rw [ha] at e
      injection e with e
      have := lt_of_heap hb.box
      omega
theorem LY.app7 (h : LY w v6 v7 es ss y) (hb : LB v6 v7 bx f y) {a : Nat} (hown : y'.ownsRow w.heap.size 3 1 v' (ss.length + 1) (ss.map iV ++ [iV a])) (hg : y.grownBy y' v7.ownBlock) (ha : v'.ownBlock = v7.ownBlock ∨ v'.ownBlock = some y.heap.size) :
    LY w v6 v' es (ss ++ [a]) y' ∧ LB v6 v' bx f y' := by
  have hk : Keep (fun q => v7.ownBlock = some q) y y' := (Keep.refl _ y).grown hg (fun k hk => .inr hk)
  refine ⟨⟨h.keep.trans' hk (fun i hi e => by have := (h.o7.lt _ e).1; omega), owns_keep h.o6 (fun q hq => hk.block q (h.o6.lt q hq).2 (fun e => h.dis q hq e)), by simpa using hown, fun g h1 h2 => ?_⟩, hk.get hb.box hb.n7, hb.n6, fun e => ?_⟩
  · rcases ha with ha | ha
    · exact h.dis g h1 (ha ▸ h2)
    · rw [ha] at h2
      injection h2 with h2
      have := (h.o6.lt g h1).2
      omega
  · rcases ha with ha | ha
    · exact hb.n7 (ha ▸ e)
    · rw [ha] at e
      injection e with e
      have := lt_of_heap hb.box
      omega
/-- A block more for what is appended. -/
theorem Keep.grown_alloc {w y y' : World} {o : Obj} {row : Option Nat} (hg : (y.alloc o).grownBy y' row) (hr : ∀ k, row = some k → w.heap.size ≤ k) (hk : Keep (fun _ => False) w y) : Keep (fun _ => False) w y' :=
  (hk.alloc o).grown hg (fun k h => .inl (hr k h))
end
theorem info_elem : (Try.prog.info? 93).map (fun i => (i.zero, i.size, i.bytes)) = some (some (.agg #[.int .i64 0, .int .i64 0]), 2, 16) := by kernel_rfl
end Go.Proofs.Ytfehiclbcebnoaa

namespace Go.Proofs.Ytfehiclbcebnoaa
open Go.RowKit Go.Proofs.Heap

theorem sizeK_out {k : Int} (h : k < 1 ∨ 10 < k) : sizeK k = 0 := by
  unfold sizeK
  rw [if_neg (by omega), if_neg (by omega), if_neg (by omega), if_neg (by omega)]

abbrev NB : Array Value := #[.int .i64 0, .int .i64 1, .int .i64 1, .int .i64 2, .int .i64 4, .int .i64 8, .int .i64 1, .int .i64 2, .int .i64 4, .int .i64 8, .int .i64 8]

set_option maxRecDepth 20000 in
set_option maxHeartbeats 2000000 in
theorem r_bytes (k : Int) (w : World) : Calls Try.prog 45 #[.int .i64 k] w fun r w' => r = .returned (.int .i64 (sizeK k)) ∧ Keep (fun _ => False) w w' := by
  go_enter Try.func45, Try.ntmps45
  by_cases h1 : k < 1
  · have g1 : decide (k < 1) = true := decide_eq_true h1
    have G := hid (sizeK_out (.inl h1))
    clear h1
    go_wp2
    go_ret
    exact ⟨by rw [G.out]; rfl, Keep.refl _ _⟩
  have g1 : decide (k < 1) = false := decide_eq_false h1
  by_cases h2 : 10 < k
  · have g2 : decide (10 < k) = true := decide_eq_true h2
    have G := hid (sizeK_out (.inr h2))
    clear h1 h2
    go_wp2
    go_ret
    exact ⟨by rw [G.out]; rfl, Keep.refl _ _⟩
  have g2 : decide (10 < k) = false := decide_eq_false h2
  have hb := heap_alloc_new w (.cells NB 124)
  have HK := hid ((Keep.refl (fun _ => False) w).alloc (.cells NB 124))
  have HB := hid hb
  clear hb
  have hc : k = 1 ∨ k = 2 ∨ k = 3 ∨ k = 4 ∨ k = 5 ∨ k = 6 ∨ k = 7 ∨ k = 8 ∨ k = 9 ∨ k = 10 := by omega
  clear h1 h2
  go_upto_region 4 with fail
  generalize w.alloc (.cells NB 124) = w1 at *
  generalize w.heap.size = b at *
  clear g1 g2
  rcases hc with rfl | rfl | rfl | rfl | rfl | rfl | rfl | rfl | rfl | rfl
  · have c : w1.cell? ⟨b, 1, none⟩ = some (.int .i64 1) := cell_of HB.out (by rfl)
    go_wp2
    go_ret
    exact ⟨by rfl, HK.out⟩
  · have c : w1.cell? ⟨b, 2, none⟩ = some (.int .i64 1) := cell_of HB.out (by rfl)
    go_wp2
    go_ret
    exact ⟨by rfl, HK.out⟩
  · have c : w1.cell? ⟨b, 3, none⟩ = some (.int .i64 2) := cell_of HB.out (by rfl)
    go_wp2
    go_ret
    exact ⟨by rfl, HK.out⟩
  · have c : w1.cell? ⟨b, 4, none⟩ = some (.int .i64 4) := cell_of HB.out (by rfl)
    go_wp2
    go_ret
    exact ⟨by rfl, HK.out⟩
  · have c : w1.cell? ⟨b, 5, none⟩ = some (.int .i64 8) := cell_of HB.out (by rfl)
    go_wp2
    go_ret
    exact ⟨by rfl, HK.out⟩
  · have c : w1.cell? ⟨b, 6, none⟩ = some (.int .i64 1) := cell_of HB.out (by rfl)
    go_wp2
    go_ret
    exact ⟨by rfl, HK.out⟩
  · have c : w1.cell? ⟨b, 7, none⟩ = some (.int .i64 2) := cell_of HB.out (by rfl)
    go_wp2
    go_ret
    exact ⟨by rfl, HK.out⟩
  · have c : w1.cell? ⟨b, 8, none⟩ = some (.int .i64 4) := cell_of HB.out (by rfl)
    go_wp2
    go_ret
    exact ⟨by rfl, HK.out⟩
  · have c : w1.cell? ⟨b, 9, none⟩ = some (.int .i64 8) := cell_of HB.out (by rfl)
    go_wp2
    go_ret
    exact ⟨by rfl, HK.out⟩
  · have c : w1.cell? ⟨b, 10, none⟩ = some (.int .i64 8) := cell_of HB.out (by rfl)
    go_wp2
    go_ret
    exact ⟨by rfl, HK.out⟩
end Go.Proofs.Ytfehiclbcebnoaa
