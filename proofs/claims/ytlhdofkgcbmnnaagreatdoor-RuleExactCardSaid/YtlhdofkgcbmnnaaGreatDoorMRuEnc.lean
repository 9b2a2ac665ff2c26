/- What is proved: rule.encode and rule.Encode. -/
import Derived.Test.YtlhdofkgcbmnnaaGreatDoorMRul1
import Derived.Test.YtlhdofkgcbmnnaaGreatDoorMExDecLaw
import Derived.Test.YtlhdofkgcbmnnaaGreatDoorMExpr2
import Derived.Test.YtlhdofkgcbmnnaaGreatDoorMRdr
import Derived.Test.YtlhdofkgcbmnnaaGreatDoorMWideText
import Derived.Test.YtlhdofkgcbmnnaaGreatDoorMDyn
import Derived.Test.YtlhdofkgcbmnnaaGreatDoorMRegion
import Derived.BigQuiet
import Derived.Laws.StructEq
namespace Go.Proofs.YtlhdofkgcbmnnaaGreatDoor
open Go.RowKit Go.Proofs.Heap Go.Proofs.Sch Go.Proofs.Wide

set_option maxRecDepth 20000 in
set_option maxHeartbeats 16000000 in
theorem ru_encode1 (c : Rul) (p : Option Addr) (cap q : Nat) (sv : Value) (l : List UInt8) (w : World) (hn : 1 ≤ c.new ∧ c.new ≤ 24) (ho : 0 ≤ c.old ∧ c.old ≤ 24) (hl : c.exprs.length ≤ 8) (he : ∀ e ∈ c.exprs, encC e = 0) (hf : FitR c)
    (hll : l.length ≤ 600000) (hW : WrS w q q sv l) (hP : EP w q p c.exprs) :
    Calls Tryz.prog 26 #[.pointer (some ⟨q, 0, none⟩), .agg #[.int .i64 c.new, .int .i64 c.old, .slice p c.exprs.length cap]] w fun r w' => ∃ sv', r = .returned (.tuple #[]) ∧ WrN w w' q q sv sv' (l ++ ruleL c) := by
  have HRL : Hid (ruleL c = leL 1 (u64N c.new) ++ leL 1 (u64N c.old) ++ leL 1 c.exprs.length ++ c.exprs.flatMap (fun c => partL (expS c))) := hid rfl
  generalize ruleL c = RL at *
  obtain ⟨rn, ro, es⟩ := c
  simp only at hn ho hl he hf hP HRL
  have HQ := hid (lt_of_heap hW.block)
  have HP := hid (fun (wy : World) (sv' : Value) (l' : List UInt8) (h : WrN w wy q q sv sv' l') => EP.low hP (h.low hW.from (lt_of_heap hW.block)))
  have HO := hid he; have HX := hid hf
  obtain ⟨w1, hw1, hb1, hs1, hk1⟩ := box1 w #[.int .i64 rn, .int .i64 ro, .slice p es.length cap] 46
  have HN1 := hid ((WrN.refl hW).more hk1)
  have HB : Hid (∀ wy sv' l', WrN w1 wy q q sv sv' l' → wy.heap[w.heap.size]? = some (.cells #[.int .i64 rn, .int .i64 ro, .slice p es.length cap] 46 (0, 0))) := hid (fun wy sv' l' h => h.keep.get hb1 (fun e => by
    rcases e with e | e
    · have := lt_of_heap hW.block; omega
    · have := (hW.own.lt _ e).2; omega))
  have HW1 := hid HN1.out.st
  have HT0 := hid (fun (wy : World) (sv' : Value) (l' : List UInt8) (h : WrN w1 wy q q sv sv' l') => HN1.out.trans h (lt_of_heap hW.block))
  have HU := hid (u64N_eq rn); have HV := hid (u64N_eq ro)
  have HI : Hid (u64N rn < 256) := hid (by rw [u64N_pos (by omega) (by omega)]; omega)
  have HJ : Hid (u64N ro < 256) := hid (by rw [u64N_pos (by omega) (by omega)]; omega)
  clear hb1 hs1 hk1 he hf hW hP
  go_enter Tryz.func26, Tryz.ntmps26
  go_upto_region 1 with fail
  rw [← hw1]
  clear hw1
  have hwl : IntKind.u64.wrap (es.length : Int) = (es.length : Int) := u64_natZ _ (by omega)
  generalize w.heap.size = cb at *
  have hu := HU.out
  have hh := HB.out w1 sv l (WrN.refl HW1.out)
  have c0 := cell_of hh (i := 0) (by rfl)
  clear hh
  go_wp2_with fail
  refine (oct_num1 (u64N rn) HI.out q q sv l w1 (by omega) HW1.out).mono ?_
  rintro r w2 ⟨sv2, rfl, h2⟩
  have HN2 := hid h2
  have hh := HB.out w2 _ _ h2
  have c1 := cell_of hh (i := 1) (by rfl)
  have hv := HV.out
  clear hh h2 c0 hu
  go_wp2_with fail
  refine (oct_num1 (u64N ro) HJ.out q q sv2 _ w2 (by simp only [List.length_append, leL_len]; omega) HN2.out.st).mono ?_
  rintro r w3 ⟨sv3, rfl, h3⟩
  have HN3 := hid (HN2.out.trans h3 (lt_of_heap HW1.out.block))
  have hh := HB.out w3 _ _ HN3.out
  have c2 := cell_of hh (i := 2) (by rfl)
  clear hh h3 c1 hv
  go_wp2_with fail
  refine (oct_num1 es.length (by omega) q q sv3 _ w3 (by simp only [List.length_append, leL_len]; omega) HN3.out.st).mono ?_
  rintro r w4 ⟨sv4, rfl, h4⟩
  have HN4 := hid (HN3.out.trans h4 (lt_of_heap HW1.out.block))
  have hh := HB.out w4 _ _ HN4.out
  have c2 := cell_of hh (i := 2) (by rfl)
  clear hh h4
  obtain ⟨T, hT⟩ : ∃ T, l ++ leL 1 (u64N rn) ++ leL 1 (u64N ro) ++ leL 1 es.length = T := ⟨_, rfl⟩
  have HT : Hid (T.length ≤ 600100) := hid (by rw [← hT]; simp only [List.length_append, leL_len]; omega)
  have HTE := hid hT
  rw [hT] at HN4
  have HF8 := hid hl
  clear hT
  go_wp2_with fail
  clear c2 hwl hl hn ho
  go_loopw [5, 6, 7, 27] (fun _ _ _ i wr => ∃ (k : Nat) (sv' : Value), k ≤ es.length ∧ i = iV k ∧ WrN w1 wr q q sv sv' (T ++ (es.take k).flatMap (fun c => partL (expS c)))) (fun _ _ _ i _ => es.length + 1 - (intOf i).toNat)
  case atStart => exact ⟨0, sv4, by omega, rfl, by simpa using HN4.out⟩
  case round =>
    obtain ⟨k, svk, hk, rfl, hn⟩ := hrel
    have HNR := hid hn
    clear hn
    by_cases hlt : k < es.length
    · obtain ⟨f, hx⟩ : ∃ f, es[k]? = some f := ⟨es[k], by simp [hlt]⟩
      have HX1 := hid (flat_next (fun c => partL (expS c)) hx)
      obtain ⟨b, off, ep, ec, rfl, hb, d0, hec, hip⟩ := EP.at (HP.out wr svk _ (HT0.out _ _ _ HNR.out)) hx
      have HIP := hid (IP.mono hip (Nat.le_of_lt (lt_of_heap HNR.out.st.block)))
      have HOK := hid (HO.out f (List.mem_of_getElem? hx))
      have HFX := hid (HX.out f (List.mem_of_getElem? hx))
      have HSM := hid (expS_small HOK.out)
      have HLK : Hid (((es.take k).flatMap (fun c => partL (expS c))).length ≤ 9300) := hid (by
        have h := flat_le (fun c => partL (expS c)) 1157 (l := es.take k) (fun g hg => by
          have := expS_small (HO.out g (List.mem_of_mem_take hg))
          show (partL (expS g)).length ≤ 1157
          rw [partL_len]; omega)
        have h8 := HF8.out
        rw [List.length_take] at h
        have : min k es.length * 1157 ≤ 8 * 1157 := Nat.mul_le_mul_right _ (by omega)
        omega)
      have hin : (0 : Int) ≤ (k : Int) ∧ (k : Int) < (es.length : Int) := ⟨by omega, by omega⟩
      clear hx hb hec hip
      go_wp2_with fail
      refine (expr_encodeX f ep ec wr HFX.out HIP.out).mono ?_
      rintro r wa ⟨rfl, hk2⟩
      have HNX := hid (HNR.out.more hk2)
      clear hk2 d0
      go_wp2_with fail
      refine (wr_part (expS f) q q svk _ wa (by simp only [List.length_append]; have := HT.out; have := HLK.out; have := HSM.out; omega) HNX.out.st).mono ?_
      rintro r wz ⟨svz, rfl, hn⟩
      have HNZ := hid (HNX.out.trans hn (lt_of_heap HW1.out.block))
      have hf8 := HF8.out
      clear hn
      go_wp2
      go_roundw
      case rel => exact ⟨k + 1, svz, by omega, by go_num, by rw [HX1.out, ← List.append_assoc]; exact HNZ.out⟩
      case measure => simp [intOf]; omega
    · obtain rfl : k = es.length := by omega
      have g1 : decide ((es.length : Int) < (es.length : Int)) = false := decide_eq_false (by omega)
      have HEND : Hid (WrN w wr q q sv svk (l ++ RL)) := hid (by
        have h := HT0.out _ _ _ HNR.out
        rw [List.take_length, ← HTE.out] at h
        rw [HRL.out]
        simpa [List.append_assoc] using h)
      go_wp2
      go_end0
      exact ⟨_, rfl, HEND.out⟩

set_option maxRecDepth 20000 in
set_option maxHeartbeats 16000000 in
theorem ru_encode (a b : Int) (rs : List Rul) (p : Option Addr) (cap : Nat) (w : World) (hl : rs.length ≤ 65536) (hfit : ∀ r ∈ rs, FitR r) (hc : UP w w.heap.size p rs) :
    Calls Tryz.prog 11 #[PgV a b p rs.length cap] w fun r w' => r = .returned (.tuple #[.string (progS a b rs), iV (progC a b rs)]) ∧ Keep (fun _ => False) w w' := by
  obtain ⟨w1, hw1, hb1, hs1, hk1⟩ := box1 w #[.int .i64 a, .int .i64 b, .slice p rs.length cap] 24
  have HCK := hid (prog_check a b rs p cap w1 hl hfit (UP.mono (UP.low hc (Low.keep0 hk1)) hk1.size))
  have HK1 := hid hk1; have HB1 := hid hb1; have HCP := hid hc
  have HFT := hid hfit
  have HWW := hid (Nat.le_refl w.heap.size)
  have c0 := cell_of hb1 (i := 0) (by rfl)
  have c1 := cell_of hb1 (i := 1) (by rfl)
  have c2 := cell_of hb1 (i := 2) (by rfl)
  clear hb1 hs1 hk1 hl hc hfit
  go_enter Tryz.func11, Tryz.ntmps11
  go_upto_region 1 with fail
  rw [← hw1]
  clear hw1
  generalize hsb : w.heap.size = sb at *
  go_wp2_with fail
  refine HCK.out.mono ?_
  rintro r w2 ⟨rfl, hk2⟩
  have HK2 := hid (HK1.out.trans hk2)
  have HB2 := hid (hk2.get HB1.out id)
  clear hk2 c0 c1 c2 HCK
  by_cases hz : progC a b rs = 0
  rotate_left
  · have HE : Hid (progS a b rs = ⟨#[]⟩) := hid (if_neg hz)
    obtain ⟨R, hR⟩ : ∃ R, progC a b rs = R := ⟨_, rfl⟩
    rw [hR] at hz ⊢
    have HR := hid hR
    have g1 : ((R : Int) != 0) = true := by rw [bne_iff_ne]; omega
    have g2 : (R != 0) = true := by rw [bne_iff_ne]; exact hz
    clear hz hR
    go_wp2
    (try simp only [Exit.inBlock, Exit.then])
    refine bodyPost_ret (results_2z rfl _) rfl ?_
    exact ⟨by rw [HE.out, HR.out]; rfl, HK2.out⟩
  have HOK := hid (prog_ok hz)
  have HE : Hid (progS a b rs = ⟨(progL a b rs).toArray⟩) := hid (if_pos hz)
  have HZ := hid hz
  rw [hz]
  clear hz
  obtain ⟨w3, hw3, hb3, hs3, hk3⟩ := box1 w2 #[.slice none 0 0] 75
  have HW3 : Hid (WrS w3 w2.heap.size w2.heap.size (.slice none 0 0) []) := hid ⟨hb3, World.ownsRow_nil _ _ _ _, by simp [Value.ownBlock], Nat.le_refl _⟩
  have HQ : Hid (w2.heap.size < w3.heap.size) := hid (by omega)
  have HSQ : Hid (sb < w2.heap.size) := hid (lt_of_heap HB2.out)
  have HB3 := hid (hk3.get HB2.out id)
  have HK3 := hid (HK2.out.trans hk3)
  have HLOW : Hid (∀ wy sv l, WrN w3 wy w2.heap.size w2.heap.size (.slice none 0 0) sv l → Low w2.heap.size w3 wy) := hid (fun wy sv l h => h.low HW3.out.from HQ.out)
  have HCB : Hid (∀ wy sv l, WrN w3 wy w2.heap.size w2.heap.size (.slice none 0 0) sv l → UP wy w2.heap.size p rs) := hid (fun wy sv l h => by
    have h1 : UP w3 sb p rs := UP.low HCP.out (by have := Low.keep0 HK3.out; rwa [hsb] at this)
    exact UP.low (UP.mono h1 (by have := HSQ.out; omega)) (HLOW.out wy sv l h))
  have HBB : Hid (∀ wy sv l, WrN w3 wy w2.heap.size w2.heap.size (.slice none 0 0) sv l → wy.heap[sb]? = some (.cells #[.int .i64 a, .int .i64 b, .slice p rs.length cap] 24 (0, 0))) := hid (fun wy sv l h => (HLOW.out wy sv l h sb HSQ.out).trans HB3.out)
  have HKF : Hid (∀ wy sv l, WrN w3 wy w2.heap.size w2.heap.size (.slice none 0 0) sv l → Keep (fun _ => False) w wy) := hid (fun wy sv l h => keep_new HK3.out h.keep (fun k e => by
    rcases e with e | e
    · have := HSQ.out; omega
    · simp [Value.ownBlock] at e))
  clear hb3 hs3 hk3
  go_upto_region 5 with fail
  rw [← hw3]
  clear hw3
  generalize w2.heap.size = q at *
  have HV0 : Hid (u64N a < 4294967296) := hid (by have := HOK.out.1; rw [u64N_pos (by omega) (by omega)]; omega)
  have HV1 : Hid (u64N b < 4294967296) := hid (by have := HOK.out.2.1; rw [u64N_pos (by omega) (by omega)]; omega)
  have HVU := hid (u64N_eq a); have HVW := hid (u64N_eq b)
  have HL24 := hid HOK.out.2.2.1
  go_wp2_with fail
  refine (oct_num1 77 (by omega) q q _ [] w3 (by simp) HW3.out).mono ?_
  rintro r w4 ⟨sv4, rfl, hn⟩
  have HN4 := hid hn
  have c0 := cell_of (HBB.out w4 _ _ hn) (i := 0) (by rfl)
  have hvu := HVU.out
  clear hn
  go_wp2_with fail
  refine (oct_num4 (u64N a) HV0.out q q sv4 _ w4 (by simp [leL_len]) HN4.out.st).mono ?_
  rintro r w5 ⟨sv5, rfl, hn⟩
  have HN5 := hid (HN4.out.trans hn HQ.out)
  have c1 := cell_of (HBB.out w5 _ _ HN5.out) (i := 1) (by rfl)
  have hvw := HVW.out
  clear hn c0 hvu
  go_wp2_with fail
  refine (oct_num4 (u64N b) HV1.out q q sv5 _ w5 (by simp [leL_len]) HN5.out.st).mono ?_
  rintro r w6 ⟨sv6, rfl, hn⟩
  have HN6 := hid (HN5.out.trans hn HQ.out)
  have c2 := cell_of (HBB.out w6 _ _ HN6.out) (i := 2) (by rfl)
  have hwl : IntKind.u64.wrap (rs.length : Int) = (rs.length : Int) := u64_natZ _ (by have := HL24.out; omega)
  clear hn c1 hvw
  go_wp2_with fail
  refine (oct_num1 rs.length (by have := HL24.out; omega) q q sv6 _ w6 (by simp [leL_len]) HN6.out.st).mono ?_
  rintro r w7 ⟨sv7, rfl, hn⟩
  have HN7 := hid (HN6.out.trans hn HQ.out)
  have c2 := cell_of (HBB.out w7 _ _ HN7.out) (i := 2) (by rfl)
  clear hn
  obtain ⟨T, hT⟩ : ∃ T, [] ++ leL 1 77 ++ leL 4 (u64N a) ++ leL 4 (u64N b) ++ leL 1 rs.length = T := ⟨_, rfl⟩
  have HT : Hid (T.length ≤ 100) := hid (by rw [← hT]; simp [leL_len])
  have HTE := hid hT
  rw [hT] at HN7
  clear hT
  go_wp2_with fail
  clear c2 hwl
  go_loopw [7, 36] (fun _ i wr => ∃ (k : Nat) (sv' : Value), k ≤ rs.length ∧ i = iV k ∧ WrN w3 wr q q (.slice none 0 0) sv' (T ++ (rs.take k).flatMap ruleL)) (fun _ i _ => rs.length + 1 - (intOf i).toNat)
  case atStart => exact ⟨0, sv7, by omega, rfl, by simpa using HN7.out⟩
  case round =>
    obtain ⟨k, svk, hk, rfl, hn⟩ := hrel
    have HNR := hid hn
    clear hn
    by_cases hlt : k < rs.length
    · obtain ⟨c, hx⟩ : ∃ c, rs[k]? = some c := ⟨rs[k], by simp [hlt]⟩
      have HX := hid (flat_next ruleL hx)
      obtain ⟨b1, off, fp, fc, rfl, hb, d0, d1, d2, hec, hep⟩ := UP.at (HCB.out wr svk _ HNR.out) hx
      have HCO := hid (HOK.out.2.2.2 c (List.mem_of_getElem? hx))
      have HCF := hid (HFT.out c (List.mem_of_getElem? hx))
      have HFP := hid hep
      have HLK : Hid (((rs.take k).flatMap ruleL).length ≤ 230000) := hid (by
        have h := flat_le ruleL 9300 (l := rs.take k) (fun g hg => by
          have := HOK.out.2.2.2 g (List.mem_of_mem_take hg)
          exact ruleL_len this.2.2.2.2.1 this.2.2.2.2.2)
        have h8 := HL24.out
        rw [List.length_take] at h
        have : min k rs.length * 9300 ≤ 24 * 9300 := Nat.mul_le_mul_right _ (by omega)
        omega)
      have hin : (0 : Int) ≤ (k : Int) ∧ (k : Int) < (rs.length : Int) := ⟨by omega, by omega⟩
      clear hx hb hec hep
      obtain ⟨wx, hwx, hbx, hsx, hkx⟩ := box1 wr #[.int .i64 c.new, .int .i64 c.old, .slice fp c.exprs.length fc] 46
      have HNX := hid (HNR.out.more hkx)
      have HFX := hid (EP.low HFP.out (fun b hb => hkx.block b (by have := lt_of_heap HNR.out.st.block; omega) id))
      have e0 := cell_of hbx (i := 0) (by rfl)
      have e1 := cell_of hbx (i := 1) (by rfl)
      have e2 := cell_of hbx (i := 2) (by rfl)
      clear hbx hsx hkx
      go_upto_region 12 with fail
      rw [← hwx]
      clear hwx d0 d1 d2
      generalize wr.heap.size = xb at *
      go_wp2_with fail
      refine (ru_encode1 c fp fc q svk _ wx ⟨HCO.out.1, HCO.out.2.1⟩ ⟨HCO.out.2.2.1, HCO.out.2.2.2.1⟩ HCO.out.2.2.2.2.1 HCO.out.2.2.2.2.2 HCF.out (by simp only [List.length_append]; have := HT.out; have := HLK.out; omega) HNX.out.st HFX.out).mono ?_
      rintro r wz ⟨svz, rfl, hn⟩
      have HNZ := hid (HNX.out.trans hn HQ.out)
      have hl24 := HL24.out
      clear hn e0 e1 e2
      go_wp2
      go_roundw
      case rel => exact ⟨k + 1, svz, by omega, by go_num, by rw [HX.out, ← List.append_assoc]; exact HNZ.out⟩
      case measure => simp [intOf]; omega
    · obtain rfl : k = rs.length := by omega
      have g1 : decide ((rs.length : Int) < (rs.length : Int)) = false := decide_eq_false (by omega)
      have HEND : Hid (WrN w3 wr q q (.slice none 0 0) svk (progL a b rs)) := hid (by
        have h := HNR.out
        rw [List.take_length, ← HTE.out] at h
        simpa [progL, List.append_assoc] using h)
      go_wp2_with fail
      refine (wr_string q q svk _ wr HEND.out.st).mono ?_
      rintro r w_ ⟨rfl, rfl⟩
      have HK := hid (HKF.out _ _ _ HEND.out)
      clear g1
      go_wp2
      (try simp only [Exit.inBlock, Exit.then])
      refine bodyPost_ret (results_2z rfl _) rfl ?_
      exact ⟨by rw [HE.out, HZ.out]; rfl, HK.out⟩
end Go.Proofs.YtlhdofkgcbmnnaaGreatDoor

namespace Go.Proofs.YtlhdofkgcbmnnaaGreatDoor
open Go.RowKit Go.Proofs.Heap Go.Proofs.Sch Go.Proofs.Wide

/-- The blocks from lo to hi stay as they are. -/
structure Ag (lo hi : Nat) (w w' : World) : Prop where
  block : ∀ b, lo ≤ b → b < hi → w'.heap[b]? = w.heap[b]?
  size : hi ≤ w'.heap.size
theorem Ag.trans {lo hi : Nat} {w w1 w2 : World} (h : Ag lo hi w w1) (k : Ag lo hi w1 w2) : Ag lo hi w w2 := ⟨fun b h1 h2 => (k.block b h1 h2).trans (h.block b h1 h2), k.size⟩
/-- True in each world that agrees on the blocks from lo to hi. -/
def Ft (w : World) (lo hi : Nat) (P : World → Prop) : Prop := ∀ w', Ag lo hi w w' → P w'
theorem Ft.ag {w w' : World} {lo hi : Nat} {P : World → Prop} (h : Ft w lo hi P) (k : Ag lo hi w w') : Ft w' lo hi P := fun w2 k2 => h w2 (k.trans k2)
theorem Ft.now {w : World} {lo hi : Nat} {P : World → Prop} (h : Ft w lo hi P) (hs : hi ≤ w.heap.size) : P w := h w ⟨fun _ _ _ => rfl, hs⟩
theorem Ft.mono {w : World} {lo hi lo' hi' : Nat} {P : World → Prop} (h : Ft w lo hi P) (hl : lo' ≤ lo) (hh : hi ≤ hi') : Ft w lo' hi' P := fun w2 k => h w2 ⟨fun b h1 h2 => k.block b (by omega) (by omega), by have := k.size; omega⟩
/-- What hangs on blocks at or above B that are not the row's. -/
def SafeI (w : World) (B : Nat) (v : Value) (P : World → Prop) : Prop := ∃ lo hi, B ≤ lo ∧ hi ≤ w.heap.size ∧ Ft w lo hi P ∧ ∀ j, v.ownBlock = some j → j < lo ∨ hi ≤ j
theorem SafeI.now {w : World} {B : Nat} {v : Value} {P : World → Prop} (h : SafeI w B v P) : P w := by
  obtain ⟨lo, hi, h1, h2, h3, _⟩ := h
  exact h3.now h2
theorem SafeI.keep {w w' : World} {B : Nat} {S : Nat → Prop} {v : Value} {P : World → Prop} (h : SafeI w B v P) (hk : Keep S w w') (hS : ∀ j, B ≤ j → S j → v.ownBlock = some j) : SafeI w' B v P := by
  obtain ⟨lo, hi, h1, h2, h3, h4⟩ := h
  refine ⟨lo, hi, h1, Nat.le_trans h2 hk.size, h3.ag ⟨fun b hb1 hb2 => hk.block b (by omega) (fun e => ?_), Nat.le_trans h2 hk.size⟩, h4⟩
  have := h4 b (hS b (by omega) e)
  omega
theorem SafeI.grow {w w' : World} {B : Nat} {v v' : Value} {P : World → Prop} (h : SafeI w B v P) (hg : w.grownBy w' v.ownBlock) (hat : v'.ownBlock = v.ownBlock ∨ v'.ownBlock = some w.heap.size) : SafeI w' B v' P := by
  obtain ⟨lo, hi, h1, h2, h3, h4⟩ := h
  refine ⟨lo, hi, h1, Nat.le_trans h2 hg.size, h3.ag ⟨fun b hb1 hb2 => hg.block b (by omega) (fun e => ?_), Nat.le_trans h2 hg.size⟩, fun j hj => ?_⟩
  · have := h4 b e.symm
    omega
  · rcases hat with e | e
    · exact h4 j (e ▸ hj)
    · rw [e] at hj; injection hj with hj; subst hj; exact .inr h2
theorem SafeI.made {w w1 : World} {B : Nat} {v : Value} {P : World → Prop} (h : Ft w1 w.heap.size w1.heap.size P) (hB : B ≤ w.heap.size) (hv : ∀ j, v.ownBlock = some j → j < w.heap.size) : SafeI w1 B v P := ⟨w.heap.size, w1.heap.size, hB, Nat.le_refl _, h, fun j hj => .inl (hv j hj)⟩
theorem SafeI.set {w : World} {B : Nat} {v : Value} {P : World → Prop} (h : SafeI w B v P) {g o : Nat} (x : Value) (hg : g < B) : SafeI (w.setCell ⟨g, o, none⟩ x) B v P := by
  exact h.keep ((Keep.refl (fun k => k = g) w).setCell (p := ⟨g, o, none⟩) rfl x) (fun j h1 h2 => by omega)

/-- A formula's row, where it lies, its room. -/
abbrev Fv := List Ins × Option Addr × Nat
def fV (r : Fv) : Value := .slice r.2.1 r.1.length r.2.2
theorem fV_one (r : Fv) : (fV r).oneCell' = true := rfl
/-- Rows of formulas that the call has made. -/
theorem ep_own {w : World} {base : Nat} {p : Option Addr} {n c : Nat} {e : TypeId} {rs : List Fv} (hn : n = rs.length) (h : w.ownsRow base e 1 (.slice p n c) n (rs.map fV)) (hr : ∀ r ∈ rs, r.1.length ≤ r.2.2 ∧ IP w w.heap.size r.2.1 r.1) : EP w w.heap.size p (rs.map (·.1)) := by
  subst hn
  rcases Nat.eq_zero_or_pos rs.length with h0 | h0
  · exact .inl (by rw [List.eq_nil_of_length_eq_zero h0]; rfl)
  · obtain ⟨g, rfl⟩ := owns_some h h0
    refine .inr ⟨g, 0, rfl, (h.lt g rfl).2, fun i x hx => ?_⟩
    rw [List.getElem?_map] at hx
    cases hr' : rs[i]? with
    | none => rw [hr'] at hx; simp at hx
    | some r =>
      rw [hr'] at hx
      simp only [Option.map_some, Option.some.injEq] at hx
      subst hx
      have hlt := (List.getElem?_eq_some_iff.1 hr').1
      have hm := List.mem_of_getElem? hr'
      have hc : w.cell? ⟨g, i, none⟩ = some (fV r) := by rw [owns_cell h hlt, List.getElem?_map, hr']; rfl
      refine ⟨r.2.1, r.2.2, ?_, (hr r hm).1, (hr r hm).2⟩
      rw [Nat.mul_one, Nat.zero_add]
      exact hc
theorem Ag.low {w w' : World} (h : Ag 0 w.heap.size w w') : Low w.heap.size w w' := fun b hb => h.block b (Nat.zero_le _) hb
/-- A row that the call has made hangs on the blocks from its base on. -/
theorem owns_ft {w : World} {base : Nat} {e : TypeId} {size : Nat} {v : Value} {n : Nat} {xs : List Value} (h : w.ownsRow base e size v n xs) : Ft w base w.heap.size (fun w' => w'.ownsRow base e size v n xs) := fun _ k =>
  owns_keep h (fun g hg => k.block g (h.lt g hg).1 (h.lt g hg).2)
theorem ip_ft {w : World} {base : Nat} {p : Option Addr} {c : Nat} {l : List Ins} {n : Nat} {e : TypeId} (hn : l.length = n) (h : w.ownsRow base e 6 (.slice p n c) n (l.flatMap icl)) : Ft w base w.heap.size (fun w' => IP w' w'.heap.size p l) := fun w' k =>
  ip_own hn (owns_ft h w' k)
/-- A row of formulas under way. -/
structure FmO (w : World) (B : Nat) (v : Value) (rs : List Fv) : Prop where
  own : w.ownsRow B 68 1 v rs.length (rs.map fV)
  each : ∀ r ∈ rs, r.1.length ≤ r.2.2 ∧ SafeI w B v (fun w' => IP w' w'.heap.size r.2.1 r.1)
theorem FmO.keep {w w' : World} {B : Nat} {S : Nat → Prop} {v : Value} {rs : List Fv} (h : FmO w B v rs) (hk : Keep S w w') (hS : ∀ j, B ≤ j → S j → False) : FmO w' B v rs :=
  ⟨owns_keep h.own (fun j hj => hk.block j (h.own.lt j hj).2 (fun e => hS j (h.own.lt j hj).1 e)), fun r hr => ⟨(h.each r hr).1, (h.each r hr).2.keep hk (fun j h1 h2 => (hS j h1 h2).elim)⟩⟩
theorem FmO.ep {w : World} {B : Nat} {p : Option Addr} {n c : Nat} {rs : List Fv} (h : FmO w B (.slice p n c) rs) (hn : n = rs.length) : EP w w.heap.size p (rs.map (·.1)) :=
  ep_own hn (by subst hn; exact h.own) (fun r hr => ⟨(h.each r hr).1, (h.each r hr).2.now⟩)
theorem FmO.ft {w : World} {B : Nat} {p : Option Addr} {n c : Nat} {rs : List Fv} (h : FmO w B (.slice p n c) rs) (hn : n = rs.length) : Ft w B w.heap.size (fun w' => EP w' w'.heap.size p (rs.map (·.1))) := fun w' k =>
  ep_own hn (by subst hn; exact owns_ft h.own w' k) (fun r hr => ⟨(h.each r hr).1, by
    obtain ⟨lo, hi, h1, h2, h3, _⟩ := (h.each r hr).2
    exact h3 w' ⟨fun b hb1 hb2 => k.block b (by omega) (by omega), by have := k.size; omega⟩⟩)
theorem FmO.more {w1 w2 : World} {B : Nat} {v v' : Value} {rs : List Fv} {r : Fv} (h : FmO w1 B v rs) (hc : r.1.length ≤ r.2.2) (hr : SafeI w1 B v (fun w' => IP w' w'.heap.size r.2.1 r.1))
    (hown : w2.ownsRow B 68 1 v' (rs.length + 1) (rs.map fV ++ [fV r])) (hg : w1.grownBy w2 v.ownBlock) (hat : v'.ownBlock = v.ownBlock ∨ v'.ownBlock = some w1.heap.size) : FmO w2 B v' (rs ++ [r]) := by
  refine ⟨by rw [List.length_append, List.map_append]; exact hown, fun s hs => ?_⟩
  rcases List.mem_append.1 hs with hs | hs
  · exact ⟨(h.each s hs).1, (h.each s hs).2.grow hg hat⟩
  · rw [List.mem_singleton.1 hs]
    exact ⟨hc, hr.grow hg hat⟩
theorem FmO.nil {w : World} {B : Nat} : FmO w B (.slice none 0 0) [] := ⟨World.ownsRow_nil _ _ _ _, fun r hr => by simp at hr⟩
theorem FmO.from {w : World} {B B' : Nat} {v : Value} {rs : List Fv} (h : FmO w B v rs) (hB : B' ≤ B) : FmO w B' v rs :=
  ⟨owns_mono h.own hB, fun r hr => ⟨(h.each r hr).1, by
    obtain ⟨lo, hi, h1, h2⟩ := (h.each r hr).2
    exact ⟨lo, hi, by omega, h2⟩⟩⟩
end Go.Proofs.YtlhdofkgcbmnnaaGreatDoor
namespace Go.Proofs.YtlhdofkgcbmnnaaGreatDoor
open Go.RowKit Go.Proofs.Heap Go.Proofs.Sch Go.Proofs.Wide
/-- A rule, where its formulas' row lies, its room. -/
abbrev Rv := Rul × Option Addr × Nat
def rlcl (x : Rv) : List Value := [.int .i64 x.1.new, .int .i64 x.1.old, .slice x.2.1 x.1.exprs.length x.2.2]
theorem rlcl_len (x : Rv) : (rlcl x).length = 3 := rfl
theorem rlcl_one (x : Rv) : ∀ u ∈ rlcl x, u.oneCell' = true := by
  intro u hu
  simp only [rlcl, List.mem_cons, List.not_mem_nil, or_false] at hu
  rcases hu with rfl | rfl | rfl <;> rfl
theorem up_own {w : World} {base n : Nat} {e : TypeId} {p : Option Addr} {c : Nat} {l : List Rv} (hn : l.length = n) (h : w.ownsRow base e 3 (.slice p n c) n (l.flatMap rlcl)) (hv : ∀ x ∈ l, x.1.exprs.length ≤ x.2.2 ∧ EP w w.heap.size x.2.1 x.1.exprs) : UP w w.heap.size p (l.map (·.1)) := by
  subst hn
  rcases Nat.eq_zero_or_pos l.length with h0 | h0
  · exact .inl (by rw [List.eq_nil_of_length_eq_zero h0]; rfl)
  · obtain ⟨g, rfl⟩ := owns_some h h0
    refine .inr ⟨g, 0, rfl, (h.lt g rfl).2, fun i x hx => ?_⟩
    rw [List.getElem?_map] at hx
    cases hr' : l[i]? with
    | none => rw [hr'] at hx; simp at hx
    | some r =>
      rw [hr'] at hx
      simp only [Option.map_some, Option.some.injEq] at hx
      subst hx
      have hm := List.mem_of_getElem? hr'
      have hc : ∀ k u, (rlcl r)[k]? = some u → w.cell? ⟨g, 0 + i * 3 + k, none⟩ = some u := fun k u hu => by
        rw [Nat.zero_add]
        exact owns3_cell rlcl_len h hr' hu
      exact ⟨hc 0 _ rfl, hc 1 _ rfl, r.2.1, r.2.2, hc 2 _ rfl, (hv r hm).1, (hv r hm).2⟩
/-- A row of rules under way. -/
structure RuO (w : World) (B : Nat) (v : Value) (rs : List Rv) : Prop where
  own : w.ownsRow B 46 3 v rs.length (rs.flatMap rlcl)
  each : ∀ r ∈ rs, r.1.exprs.length ≤ r.2.2 ∧ SafeI w B v (fun w' => EP w' w'.heap.size r.2.1 r.1.exprs)
theorem RuO.keep {w w' : World} {B : Nat} {S : Nat → Prop} {v : Value} {rs : List Rv} (h : RuO w B v rs) (hk : Keep S w w') (hS : ∀ j, B ≤ j → S j → False) : RuO w' B v rs :=
  ⟨owns_keep h.own (fun j hj => hk.block j (h.own.lt j hj).2 (fun e => hS j (h.own.lt j hj).1 e)), fun r hr => ⟨(h.each r hr).1, (h.each r hr).2.keep hk (fun j h1 h2 => (hS j h1 h2).elim)⟩⟩
theorem RuO.up {w : World} {B : Nat} {p : Option Addr} {n c : Nat} {rs : List Rv} (h : RuO w B (.slice p n c) rs) (hn : n = rs.length) : UP w w.heap.size p (rs.map (·.1)) :=
  up_own hn.symm (by subst hn; exact h.own) (fun r hr => ⟨(h.each r hr).1, (h.each r hr).2.now⟩)
theorem RuO.more {w1 w2 : World} {B : Nat} {v v' : Value} {rs : List Rv} {r : Rv} (h : RuO w1 B v rs) (hc : r.1.exprs.length ≤ r.2.2) (hr : SafeI w1 B v (fun w' => EP w' w'.heap.size r.2.1 r.1.exprs))
    (hown : w2.ownsRow B 46 3 v' (rs.length + 1) (rs.flatMap rlcl ++ rlcl r)) (hg : w1.grownBy w2 v.ownBlock) (hat : v'.ownBlock = v.ownBlock ∨ v'.ownBlock = some w1.heap.size) : RuO w2 B v' (rs ++ [r]) := by
  refine ⟨by rw [List.length_append, List.flatMap_append]; simpa using hown, fun s hs => ?_⟩
  rcases List.mem_append.1 hs with hs | hs
  · exact ⟨(h.each s hs).1, (h.each s hs).2.grow hg hat⟩
  · rw [List.mem_singleton.1 hs]
    exact ⟨hc, hr.grow hg hat⟩
theorem RuO.nil {w : World} {B : Nat} : RuO w B (.slice none 0 0) [] := ⟨World.ownsRow_nil _ _ _ _, fun r hr => by simp at hr⟩
end Go.Proofs.YtlhdofkgcbmnnaaGreatDoor

namespace Go.Proofs.YtlhdofkgcbmnnaaGreatDoor
open Go.RowKit Go.Proofs.Heap Go.Proofs.Sch Go.Proofs.Wide

theorem ins_ext (a b : Ins) : (a.op = b.op ∧ a.a = b.a ∧ a.b = b.b ∧ a.k = b.k) ↔ a = b := by cases a; cases b; simp
instance : DecidableEq Ins := fun a b => decidable_of_iff _ (ins_ext a b)
set_option maxRecDepth 100000 in
theorem eq_insB (x y : Ins) (w : World) : (Op.equalIn 10000 66 (InV x) (InV y)).run Tryz.prog w = .ok (decide (x = y)) w := by
  have u0 := Tryz.underlying3
  have u1 := Tryz.underlying4
  have u2 := Tryz.underlying62
  have hS : Tryz.prog.underlying 66 = some (.struct (Tryz.prog.fieldsOf 66)) := by kernel_rfl
  have hp : Tryz.prog.stoodInHeld 66 = false := by kernel_rfl
  have hS2 : Tryz.prog.underlying 64 = some (.struct (Tryz.prog.fieldsOf 64)) := by kernel_rfl
  have hp2 : Tryz.prog.stoodInHeld 64 = false := by kernel_rfl
  have key : ∀ (a b : WI), (Op.equalIn 9999 64 (WV a) (WV b)).run Tryz.prog w = .ok (decide (a = b)) w := by
    intro a b
    rw [show (9999 : Nat) = 9998 + 1 from rfl, run_equalIn_agg w 9998 64 _ _ hS2 hp2]
    simp only [Program.fieldsOf, Tryz.underlying64]
    go_simp
    obtain ⟨n1, h1, l1⟩ := a
    obtain ⟨n2, h2, l2⟩ := b
    cases n1 <;> cases n2 <;> by_cases e1 : h1 = h2 <;> by_cases e2 : l1 = l2 <;> simp [e1, e2] <;> omega
  rw [show (10000 : Nat) = 9999 + 1 from rfl, run_equalIn_agg w 9999 66 _ _ hS hp]
  simp only [Program.fieldsOf, Tryz.underlying66]
  clear hS hp hS2 hp2
  have px : ∀ z : Ins, (part 3 #[.int .i64 z.op, .int .i64 z.a, .int .i64 z.b, .bool z.k.neg, .int .u64 (z.k.hi : Int), .int .u64 (z.k.lo : Int)] 0).run Tryz.prog w = .ok (.int .i64 z.op) w ∧
      (part 3 #[.int .i64 z.op, .int .i64 z.a, .int .i64 z.b, .bool z.k.neg, .int .u64 (z.k.hi : Int), .int .u64 (z.k.lo : Int)] 1).run Tryz.prog w = .ok (.int .i64 z.a) w ∧
      (part 3 #[.int .i64 z.op, .int .i64 z.a, .int .i64 z.b, .bool z.k.neg, .int .u64 (z.k.hi : Int), .int .u64 (z.k.lo : Int)] 2).run Tryz.prog w = .ok (.int .i64 z.b) w ∧
      (part 64 #[.int .i64 z.op, .int .i64 z.a, .int .i64 z.b, .bool z.k.neg, .int .u64 (z.k.hi : Int), .int .u64 (z.k.lo : Int)] 3).run Tryz.prog w = .ok (WV z.k) w := fun z => ⟨by kernel_rfl, by kernel_rfl, by kernel_rfl, by kernel_rfl⟩
  have ei : ∀ a b : Int, (Op.equalIn 9999 3 (.int .i64 a) (.int .i64 b)).run Tryz.prog w = .ok (a == b) w := fun a b => run_equalIn_int w 9998 3 .i64 .i64 a b u0
  obtain ⟨x0, x1, x2, x3⟩ := px x
  obtain ⟨y0, y1, y2, y3⟩ := px y
  have hx : (x = y) ↔ (x.op = y.op ∧ x.a = y.a ∧ x.b = y.b ∧ x.k = y.k) := by
    obtain ⟨o1, a1, b1, k1⟩ := x
    obtain ⟨o2, a2, b2, k2⟩ := y
    simp only [Ins.mk.injEq]
  simp only [Op.eqFields, Sem.run_bind, Sem.run_ite, x0, x1, x2, x3, y0, y1, y2, y3, ei, key, Result.andThen_ok]
  by_cases h0 : x.op = y.op <;> by_cases h1 : x.a = y.a <;> by_cases h2 : x.b = y.b <;> by_cases h3 : x.k = y.k <;> simp [hx, h0, h1, h2, h3]
theorem neq_insB (x y : Ins) (w : World) : (binOp .neq 66 (InV x) (InV y)).run Tryz.prog w = .ok (.bool (!decide (x = y))) w := by
  rw [run_neq_struct, eq_insB]; rfl
theorem eql_insB (x y : Ins) (w : World) : (binOp .eql 66 (InV x) (InV y)).run Tryz.prog w = .ok (.bool (decide (x = y))) w := by
  rw [run_eql_struct, eq_insB]; rfl
end Go.Proofs.YtlhdofkgcbmnnaaGreatDoor

namespace Go.Proofs.Plan
section
variable {P : Program} {ops : Array Oper}

theorem wpQuiet_load {Q : Act → Prop} {rest : List Oper} {a : Act} {o : Oper} {w : World} (hgd : o.guard = none) (ty : TypeId) (x : Operand) (ho : o.op = .load ty x) (ad : Addr) (hx : a.eval x = .pointer (some ad)) (v : Value)
    (hl : (loadVar ty ad).run P w = .ok v w) (h : wpQuiet P ops (fun w' => w' = w) Q rest (a.put o.dst v)) : wpQuiet P ops (fun w' => w' = w) Q (o :: rest) a := by
  refine BigFrame.wpQuiet_want (by simp [Region.wanted, hgd]) fun K hK => ⟨v, fun w' hw' => ?_, hK _ h⟩
  subst hw'
  unfold Oper.quietAt execOp
  simp [ho, hx, Instr.loadAt, Instr.sureAddr, hl]
  exact ⟨rfl, rfl⟩
end
end Go.Proofs.Plan

namespace Go.Proofs.YtlhdofkgcbmnnaaGreatDoor
open Go.RowKit Go.Proofs.Heap

theorem quiet_neqC {Q : Act → Prop} {rest : List Oper} {ops : Array Oper} {P : Program} {a : Act} {o : Oper} {w : World} (hgd : o.guard = none) (t u : TypeId) (x y : Operand) (xs ys : Array Value) (b : Bool) (ho : o.op = .binOp .neq t x y u) (hx : a.eval x = .agg xs) (hy : a.eval y = .agg ys)
    (hm : P.eqGuardType P.depth t = false) (hl : (binOp .neq t (.agg xs) (.agg ys)).run P w = .ok (.bool b) w) (h : wpQuiet P ops (fun w' => w' = w) Q rest (a.put o.dst (.bool b))) : wpQuiet P ops (fun w' => w' = w) Q (o :: rest) a := by
  refine BigFrame.wpQuiet_want (by simp [Region.wanted, hgd]) fun K hK => ⟨.bool b, fun w' hw' => ?_, hK _ h⟩
  subst hw'
  have hg := fun (o1 o2 : Operand) => run_eqGuard_agg (P := P) (w := w') .neq t o1 o2 xs ys hm
  unfold Oper.quietAt execOp
  simp [ho, hx, hy, hl, hg]
  exact ⟨rfl, rfl⟩
end Go.Proofs.YtlhdofkgcbmnnaaGreatDoor

namespace Go.Proofs.YtlhdofkgcbmnnaaGreatDoor
open Go.RowKit Go.Proofs.Heap Go.Proofs.Sch Go.Proofs.Wide

theorem take_eqR {α : Type} {A B : List α} {k : Nat} {x y : α} (h : A.take k = B.take k) (hx : A[k]? = some x) (hy : B[k]? = some y) (e : x = y) : A.take (k + 1) = B.take (k + 1) := by
  rw [take_next hx, take_next hy, h, e]
theorem neq_ins1 (x : Ins) (w : World) : (binOp .neq 66 (InV x) (InV x)).run Tryz.prog w = .ok (.bool false) w := by rw [neq_insB]; simp
theorem neq_ins2 {x y : Ins} (h : x ≠ y) (w : World) : (binOp .neq 66 (InV x) (InV y)).run Tryz.prog w = .ok (.bool true) w := by rw [neq_insB, decide_eq_false h]; rfl

set_option maxRecDepth 20000 in
set_option maxHeartbeats 8000000 in
theorem eq_inss (xs ys : List Ins) (p q : Option Addr) (c d : Nat) (w : World) (hl : xs.length ≤ 4398046511104) (hx : IP w w.heap.size p xs) (hy : IP w w.heap.size q ys) :
    Calls Tryz.prog 60 #[.slice p xs.length c, .slice q ys.length d] w fun r w' => r = .returned (.bool (decide (xs = ys))) ∧ Keep (fun _ => False) w w' := by
  have HX := hid hx; have HY := hid hy
  clear hx hy
  have HQT : Hid (xs = ys → decide (xs = ys) = true) := hid (fun h => decide_eq_true h)
  have HQF : Hid (xs ≠ ys → decide (xs = ys) = false) := hid (fun h => decide_eq_false h)
  generalize decide (xs = ys) = R at *
  go_enter Tryz.func60, Tryz.ntmps60
  by_cases hn : xs.length = ys.length
  rotate_left
  · have G : Hid (R = false) := hid (HQF.out (fun h => hn (by rw [h])))
    have g1 : ((xs.length : Int) != (ys.length : Int)) = true := by rw [bne_iff_ne]; omega
    have g2 : (xs.length != ys.length) = true := by rw [bne_iff_ne]; exact hn
    clear hn
    go_wp2
    go_ret
    exact ⟨by rw [G.out]; rfl, Keep.refl _ _⟩
  have HN := hid hn
  rw [← hn]
  generalize hnl : xs.length = n at *
  have HNL := hid hnl
  clear hn hnl
  go_wp2_with fail
  go_loopw [5, 13] (fun _ i wr => ∃ k : Nat, k ≤ n ∧ i = iV k ∧ (∀ j, j < k → xs[j]? = ys[j]?) ∧ Keep (fun _ => False) w wr) (fun _ i _ => n + 1 - (RowKit.intOf i).toNat)
  case atStart => exact ⟨0, Nat.zero_le _, rfl, fun j hj => by omega, Keep.refl _ _⟩
  case round =>
    obtain ⟨k, hk, rfl, hal, hkr⟩ := hrel
    have HAL := hid hal; have HKR := hid hkr
    clear hal hkr
    by_cases hlt : k < n
    · obtain ⟨x, hxk⟩ : ∃ x, xs[k]? = some x := ⟨xs[k]'(by rw [HNL.out]; exact hlt), by simp [HNL.out, hlt]⟩
      obtain ⟨y, hyk⟩ : ∃ y, ys[k]? = some y := ⟨ys[k]'(by rw [← HN.out]; exact hlt), by simp [← HN.out, hlt]⟩
      obtain ⟨b1, o1, rfl, hb1, x0, x1, x2, x3, x4, x5⟩ := IP.at (IP.low HX.out (Low.keep0 HKR.out.drew)) hxk
      obtain ⟨b2, o2, rfl, hb2, y0, y1, y2, y3, y4, y5⟩ := IP.at (IP.low HY.out (Low.keep0 HKR.out.drew)) hyk
      have hin : (0 : Int) ≤ (k : Int) ∧ (k : Int) < (n : Int) := ⟨by omega, by omega⟩
      have HNX : Hid (x = y → ∀ j, j < k + 1 → xs[j]? = ys[j]?) := hid (fun h j hj => by
        by_cases e : j = k
        · subst e; rw [hxk, hyk, h]
        · exact HAL.out j (by omega))
      have HNE : Hid (x ≠ y → R = false) := hid (fun h => HQF.out (fun e => h (by rw [e, hyk] at hxk; exact (Option.some.inj hxk).symm)))
      clear hxk hyk
      go_upto_region 6 with fail
      by_cases hxy : x = y
      · have G := hid (HNX.out hxy)
        subst hxy
        have hcmp := neq_ins1 x wr.drew
        refine Plan.wp_region_reads (by as_aux_lemma => kernel_rfl) (by as_aux_lemma => kernel_rfl) ?_
        repeat (go_big_quiet_step (fail))
        refine wpQuiet_nil ?_
        clear x0 x1 x2 x3 x4 x5 y0 y1 y2 y3 y4 y5 hcmp
        go_wp2
        go_roundw
        case rel => exact ⟨k + 1, by omega, by go_num, G.out, HKR.out.drew⟩
        case measure => simp [RowKit.intOf]; omega
      · have G := hid (HNE.out hxy)
        have hcmp := neq_ins2 hxy wr.drew
        clear hxy
        refine Plan.wp_region_reads (by as_aux_lemma => kernel_rfl) (by as_aux_lemma => kernel_rfl) ?_
        iterate 8 (go_big_quiet_step (fail))
        refine quiet_neqC rfl _ _ _ _ _ _ _ rfl rfl rfl (by kernel_rfl) hcmp ?_
        refine wpQuiet_nil ?_
        clear x0 x1 x2 x3 x4 x5 y0 y1 y2 y3 y4 y5 hcmp
        go_wp2
        go_ret
        exact ⟨by rw [G.out]; rfl, HKR.out.drew⟩
    · obtain rfl : k = n := by omega
      have G : Hid (R = true) := hid (HQT.out (List.ext_getElem? fun j => by
        by_cases h : j < k
        · exact HAL.out j h
        · rw [List.getElem?_eq_none (by rw [HNL.out]; omega), List.getElem?_eq_none (by rw [← HN.out]; omega)]))
      go_wp2
      go_ret
      exact ⟨by rw [G.out]; rfl, HKR.out⟩

set_option maxRecDepth 20000 in
set_option maxHeartbeats 8000000 in
theorem eq_forms (A B : List (List Ins)) (pa pb : Option Addr) (ca cb : Nat) (w : World) (hl1 : A.length ≤ 4398046511104) (hL : ∀ x ∈ A, x.length ≤ 4398046511104) (hA : EP w w.heap.size pa A) (hB : EP w w.heap.size pb B) :
    Calls Tryz.prog 59 #[.slice pa A.length ca, .slice pb B.length cb, .func (.func 60) #[] #[]] w fun r w' => r = .returned (.bool (decide (A = B))) ∧ Keep (fun _ => False) w w' := by
  have HA := hid hA; have HB := hid hB; have HL := hid hL
  clear hA hB hL
  go_enter Tryz.func59, Tryz.ntmps59
  by_cases hl : A.length = B.length
  rotate_left
  · have g1 : ((A.length : Int) == (B.length : Int)) = false := beq_eq_false_iff_ne.2 (by omega)
    have g2 : (A.length == B.length) = false := beq_eq_false_iff_ne.2 hl
    have g3 : ((A.length : Int) != (B.length : Int)) = true := by rw [bne, g1]; rfl
    have g4 : (A.length != B.length) = true := by rw [bne, g2]; rfl
    have G3 : Hid (decide (A = B) = false) := hid (decide_eq_false (fun h => hl (by rw [h])))
    go_wp2
    go_ret
    exact ⟨by rw [G3.out]; rfl, Keep.refl _ _⟩
  generalize hn : B.length = n at *
  rw [hl]
  have hnA : A.length = n := hl
  have hn65 : n ≤ 4398046511104 := by omega
  clear hl
  have HNA := hid hnA; have HNB := hid hn
  clear hnA hn hl1
  go_wp2_with fail
  go_loopw [7, 8, 9, 17] (fun _ _ _ i wr => ∃ k : Nat, k ≤ n ∧ i = iV k ∧ Keep (fun _ => False) w wr ∧ A.take k = B.take k) (fun _ _ _ i _ => n + 1 - (intOf i).toNat)
  case atStart => exact ⟨0, by omega, rfl, Keep.refl _ _, rfl⟩
  case round =>
    obtain ⟨k, hk, rfl, hkeep, htk⟩ := hrel
    have HK := hid hkeep; have HT := hid htk
    clear hkeep htk
    by_cases hlt : k < n
    · obtain ⟨x, hx⟩ : ∃ f, A[k]? = some f := ⟨A[k]'(by rw [HNA.out]; exact hlt), by simp [HNA.out, hlt]⟩
      obtain ⟨y, hy⟩ : ∃ f, B[k]? = some f := ⟨B[k]'(by rw [HNB.out]; exact hlt), by simp [HNB.out, hlt]⟩
      have hlow : Low w.heap.size w wr := Low.keep0 HK.out
      obtain ⟨ba, oa, xp, xc, rfl, hba, a0, _, hxi⟩ := EP.at (EP.low HA.out hlow) hx
      obtain ⟨bb, ob, yp, yc, rfl, hbb, b0, _, hyi⟩ := EP.at (EP.low HB.out hlow) hy
      have HXI := hid (IP.mono hxi HK.out.size); have HYI := hid (IP.mono hyi HK.out.size)
      have HXL := hid (HL.out x (List.mem_of_getElem? hx))
      have hin : (0 : Int) ≤ (k : Int) ∧ (k : Int) < (n : Int) := ⟨by omega, by omega⟩
      have HNE : Hid (x ≠ y → decide (A = B) = false) := hid (fun h => decide_eq_false (fun e => h (by rw [e, hy] at hx; injection hx with hx; exact hx.symm)))
      have HEQ : Hid (x = y → A.take (k + 1) = B.take (k + 1)) := hid (take_eqR HT.out hx hy)
      clear hx hy hlow HT hxi hyi
      go_wp2_with fail
      refine (eq_inss x y xp yp xc yc _ HXL.out HXI.out HYI.out).mono ?_
      rintro r w1 ⟨rfl, hk1⟩
      have HK1 := hid (HK.out.trans hk1)
      clear hk1 a0 b0
      by_cases hxy : x = y
      · have G3 := hid (HEQ.out hxy)
        rw [decide_eq_true hxy]
        clear hxy
        go_wp2
        go_roundw
        case rel => exact ⟨k + 1, by omega, by go_num, HK1.out, G3.out⟩
        case measure => simp [intOf]; omega
      · have G3 := hid (HNE.out hxy)
        rw [decide_eq_false hxy]
        clear hxy
        go_wp2
        go_ret
        exact ⟨by rw [G3.out]; rfl, HK1.out⟩
    · obtain rfl : k = n := by omega
      have G3 : Hid (decide (A = B) = true) := hid (decide_eq_true (by have h := HT.out; have h1 := HNA.out; have h2 := HNB.out; rwa [List.take_of_length_le (by omega), List.take_of_length_le (by omega)] at h))
      clear HT
      go_wp2
      go_ret
      exact ⟨by rw [G3.out]; rfl, HK.out⟩

theorem rul_ext (a b : Rul) : (a.new = b.new ∧ a.old = b.old ∧ a.exprs = b.exprs) ↔ a = b := by cases a; cases b; simp
instance : DecidableEq Rul := fun a b => decidable_of_iff _ (rul_ext a b)
/-- Rules no longer than a machine holds. -/
abbrev SmR (r : Rul) : Prop := r.exprs.length ≤ 4398046511104 ∧ ∀ x ∈ r.exprs, x.length ≤ 4398046511104
abbrev RulV (r : Rul) (p : Option Addr) (c : Nat) : Value := .agg #[.int .i64 r.new, .int .i64 r.old, .slice p r.exprs.length c]

set_option maxRecDepth 20000 in
set_option maxHeartbeats 8000000 in
theorem ru_same1 (x y : Rul) (pa pb : Option Addr) (ca cb : Nat) (w : World) (hs : SmR x) (hA : EP w w.heap.size pa x.exprs) (hB : EP w w.heap.size pb y.exprs) :
    Calls Tryz.prog 42 #[RulV x pa ca, RulV y pb cb] w fun r w' => r = .returned (.bool (decide (x = y))) ∧ Keep (fun _ => False) w w' := by
  obtain ⟨xi, xn, xf⟩ := x
  obtain ⟨yi, yn, yf⟩ := y
  simp only at hs hA hB
  have hk := ((Keep.refl (fun _ => False) w).alloc (.cells #[.int .i64 xi, .int .i64 xn, .slice pa xf.length ca] 46)).alloc (.cells #[.int .i64 yi, .int .i64 yn, .slice pb yf.length cb] 46)
  have HK := hid hk
  have HA := hid (EP.mono (EP.low hA (Low.keep0 hk)) hk.size); have HB := hid (EP.mono (EP.low hB (Low.keep0 hk)) hk.size)
  have HNE : Hid ((xi ≠ yi ∨ xn ≠ yn ∨ xf ≠ yf) → decide ((⟨xi, xn, xf⟩ : Rul) = ⟨yi, yn, yf⟩) = false) := hid (fun h => decide_eq_false (fun e => by injection e with e1 e2 e3; rcases h with h | h | h; exact h e1; exact h e2; exact h e3))
  have HS := hid hs
  clear hk hA hB hs
  go_enter Tryz.func42, Tryz.ntmps42
  by_cases e1 : xi = yi
  rotate_left
  · have g1 : (xi == yi) = false := beq_eq_false_iff_ne.2 e1
    have G3 := hid (HNE.out (.inl e1))
    clear HNE
    go_wp2
    go_ret
    exact ⟨by rw [G3.out]; rfl, HK.out⟩
  subst e1
  by_cases e2 : xn = yn
  rotate_left
  · have g1 : (xn == yn) = false := beq_eq_false_iff_ne.2 e2
    have G3 := hid (HNE.out (.inr (.inl e2)))
    clear HNE
    go_wp2
    go_ret
    exact ⟨by rw [G3.out]; rfl, HK.out⟩
  subst e2
  have HEQ : Hid (decide ((⟨xi, xn, xf⟩ : Rul) = ⟨xi, xn, yf⟩) = decide (xf = yf)) := hid (by simp)
  clear HNE
  go_wp2_with fail
  refine (eq_forms xf yf pa pb ca cb _ HS.out.1 HS.out.2 HA.out HB.out).mono ?_
  rintro r w1 ⟨rfl, hk1⟩
  have HK1 := hid (HK.out.trans hk1)
  clear hk1
  go_wp2
  go_ret
  exact ⟨by rw [HEQ.out]; rfl, HK1.out⟩

set_option maxRecDepth 20000 in
set_option maxHeartbeats 8000000 in
theorem eq_rules (A B : List Rul) (pa pb : Option Addr) (ca cb : Nat) (w : World) (hl1 : A.length ≤ 4398046511104) (hL : ∀ x ∈ A, SmR x) (hA : UP w w.heap.size pa A) (hB : UP w w.heap.size pb B) :
    Calls Tryz.prog 41 #[.slice pa A.length ca, .slice pb B.length cb, .func (.func 42) #[] #[]] w fun r w' => r = .returned (.bool (decide (A = B))) ∧ Keep (fun _ => False) w w' := by
  have HA := hid hA; have HB := hid hB; have HL := hid hL
  clear hA hB hL
  go_enter Tryz.func41, Tryz.ntmps41
  by_cases hl : A.length = B.length
  rotate_left
  · have g1 : ((A.length : Int) == (B.length : Int)) = false := beq_eq_false_iff_ne.2 (by omega)
    have g2 : (A.length == B.length) = false := beq_eq_false_iff_ne.2 hl
    have g3 : ((A.length : Int) != (B.length : Int)) = true := by rw [bne, g1]; rfl
    have g4 : (A.length != B.length) = true := by rw [bne, g2]; rfl
    have G3 : Hid (decide (A = B) = false) := hid (decide_eq_false (fun h => hl (by rw [h])))
    go_wp2
    go_ret
    exact ⟨by rw [G3.out]; rfl, Keep.refl _ _⟩
  generalize hn : B.length = n at *
  rw [hl]
  have hnA : A.length = n := hl
  have hn65 : n ≤ 4398046511104 := by omega
  clear hl
  have HNA := hid hnA; have HNB := hid hn
  clear hnA hn hl1
  go_wp2_with fail
  go_loopw [7, 8, 9, 17] (fun _ _ _ i wr => ∃ k : Nat, k ≤ n ∧ i = iV k ∧ Keep (fun _ => False) w wr ∧ A.take k = B.take k) (fun _ _ _ i _ => n + 1 - (intOf i).toNat)
  case atStart => exact ⟨0, by omega, rfl, Keep.refl _ _, rfl⟩
  case round =>
    obtain ⟨k, hk, rfl, hkeep, htk⟩ := hrel
    have HK := hid hkeep; have HT := hid htk
    clear hkeep htk
    by_cases hlt : k < n
    · obtain ⟨x, hx⟩ : ∃ f, A[k]? = some f := ⟨A[k]'(by rw [HNA.out]; exact hlt), by simp [HNA.out, hlt]⟩
      obtain ⟨y, hy⟩ : ∃ f, B[k]? = some f := ⟨B[k]'(by rw [HNB.out]; exact hlt), by simp [HNB.out, hlt]⟩
      have HXL := hid (HL.out x (List.mem_of_getElem? hx))
      obtain ⟨ba, oa, xp, xc, rfl, hba, a0, a1, a2, _, hxi⟩ := UP.at (UP.low HA.out (Low.keep0 HK.out)) hx
      obtain ⟨bb, ob, yp, yc, rfl, hbb, b0, b1, b2, _, hyi⟩ := UP.at (UP.low HB.out (Low.keep0 HK.out)) hy
      have hin : (0 : Int) ≤ (k : Int) ∧ (k : Int) < (n : Int) := ⟨by omega, by omega⟩
      have HNE : Hid (x ≠ y → decide (A = B) = false) := hid (fun h => decide_eq_false (fun e => h (by rw [e, hy] at hx; injection hx with hx; exact hx.symm)))
      have HEQ : Hid (x = y → A.take (k + 1) = B.take (k + 1)) := hid (take_eqR HT.out hx hy)
      have hk1 := (Keep.refl (fun _ => False) wr).alloc (.cells #[.int .i64 x.new, .int .i64 x.old, .slice xp x.exprs.length xc] 46)
      have hk2 := hk1.alloc (.cells #[.int .i64 y.new, .int .i64 y.old, .slice yp y.exprs.length yc] 46)
      have hlow1 := Low.keep0 hk1
      have b0' := (hlow1.cell (o := ob + k * 3) (Nat.lt_of_lt_of_le hbb HK.out.size)).trans b0
      have b1' := (hlow1.cell (o := ob + k * 3 + 1) (Nat.lt_of_lt_of_le hbb HK.out.size)).trans b1
      have b2' := (hlow1.cell (o := ob + k * 3 + 2) (Nat.lt_of_lt_of_le hbb HK.out.size)).trans b2
      have HK2 := hid (HK.out.trans hk2)
      have HXI := hid (EP.mono (EP.low (EP.mono hxi HK.out.size) (Low.keep0 hk2)) hk2.size)
      have HYI := hid (EP.mono (EP.low (EP.mono hyi HK.out.size) (Low.keep0 hk2)) hk2.size)
      clear hx hy HT hxi hyi hk1 hk2 hlow1 b0 b1 b2
      go_wp2_with fail
      refine (ru_same1 x y xp yp xc yc _ HXL.out HXI.out HYI.out).mono ?_
      rintro r w1 ⟨rfl, hk1⟩
      have HK1 := hid (HK2.out.trans hk1)
      clear hk1
      by_cases hxy : x = y
      · have G3 := hid (HEQ.out hxy)
        rw [decide_eq_true hxy]
        clear hxy
        go_wp2
        go_roundw
        case rel => exact ⟨k + 1, by omega, by go_num, HK1.out, G3.out⟩
        case measure => simp [intOf]; omega
      · have G3 := hid (HNE.out hxy)
        rw [decide_eq_false hxy]
        clear hxy
        go_wp2
        go_ret
        exact ⟨by rw [G3.out]; rfl, HK1.out⟩
    · obtain rfl : k = n := by omega
      have G3 : Hid (decide (A = B) = true) := hid (decide_eq_true (by have h := HT.out; have h1 := HNA.out; have h2 := HNB.out; rwa [List.take_of_length_le (by omega), List.take_of_length_le (by omega)] at h))
      clear HT
      go_wp2
      go_ret
      exact ⟨by rw [G3.out]; rfl, HK.out⟩

/-- Whether programs of rules are the same. -/
def sameP (a b : Int) (A : List Rul) (c d : Int) (B : List Rul) : Bool := decide (a = c ∧ b = d ∧ A = B)
set_option maxRecDepth 20000 in
set_option maxHeartbeats 8000000 in
theorem ru_same (a b : Int) (A : List Rul) (pa : Option Addr) (ca : Nat) (c d : Int) (B : List Rul) (pb : Option Addr) (cb : Nat) (w : World) (hl1 : A.length ≤ 4398046511104) (hL : ∀ x ∈ A, SmR x) (hA : UP w w.heap.size pa A) (hB : UP w w.heap.size pb B) :
    Calls Tryz.prog 19 #[PgV a b pa A.length ca, PgV c d pb B.length cb] w fun r w' => r = .returned (.bool (sameP a b A c d B)) ∧ Keep (fun _ => False) w w' := by
  have hk := ((Keep.refl (fun _ => False) w).alloc (.cells #[.int .i64 a, .int .i64 b, .slice pa A.length ca] 24)).alloc (.cells #[.int .i64 c, .int .i64 d, .slice pb B.length cb] 24)
  have HK := hid hk
  have HA := hid (UP.mono (UP.low hA (Low.keep0 hk)) hk.size); have HB := hid (UP.mono (UP.low hB (Low.keep0 hk)) hk.size)
  have HNE : Hid ((a ≠ c ∨ b ≠ d ∨ A ≠ B) → sameP a b A c d B = false) := hid (fun h => decide_eq_false (fun e => by rcases h with h | h | h; exact h e.1; exact h e.2.1; exact h e.2.2))
  have HYE : Hid (a = c → b = d → sameP a b A c d B = decide (A = B)) := hid (fun h1 h2 => by unfold sameP; simp [h1, h2])
  have HL := hid hL; have HL1 := hid hl1
  generalize sameP a b A c d B = R at *
  clear hk hA hB hL hl1
  go_enter Tryz.func19, Tryz.ntmps19
  by_cases e1 : a = c
  rotate_left
  · have g1 : (a == c) = false := beq_eq_false_iff_ne.2 e1
    have G3 := hid (HNE.out (.inl e1))
    clear HNE e1 HYE
    go_wp2
    go_ret
    exact ⟨by rw [G3.out]; rfl, HK.out⟩
  subst e1
  by_cases e2 : b = d
  rotate_left
  · have g1 : (b == d) = false := beq_eq_false_iff_ne.2 e2
    have G3 := hid (HNE.out (.inr (.inl e2)))
    clear HNE e2 HYE
    go_wp2
    go_ret
    exact ⟨by rw [G3.out]; rfl, HK.out⟩
  subst e2
  have HEQ := hid (HYE.out rfl rfl)
  clear HNE HYE
  go_wp2_with fail
  refine (eq_rules A B pa pb ca cb _ HL1.out HL.out HA.out HB.out).mono ?_
  rintro r w1 ⟨rfl, hk1⟩
  have HK1 := hid (HK.out.trans hk1)
  clear hk1
  go_wp2
  go_ret
  exact ⟨by rw [HEQ.out]; rfl, HK1.out⟩
end Go.Proofs.YtlhdofkgcbmnnaaGreatDoor
