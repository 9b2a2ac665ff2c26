/- What is proved: what the reference's Decode answers: the program's schema of bytes, or none. -/
import Derived.Test.YtfehiclbcebnoaaMRf8Enc
import Derived.Test.YtfehiclbcebnoaaMScDec
import Derived.Test.YtfehiclbcebnoaaMRef05
import Derived.Test.YtfehiclbcebnoaaMScPts4
import Derived.Test.YtfehiclbcebnoaaMHeap
import Derived.Test.YtfehiclbcebnoaaProg
import Derived.Deep.Slices
import Derived.Deep.Strs
import Derived.ProofKit
import Derived.OpenShut
import Derived.ShutString
import Derived.ChangeOld
import Derived.Below
namespace Go.Proofs.Ytfehiclbcebnoaa
open Go.RowKit Go.Proofs.Heap Go.Proofs.Sch

/-- What the reference's Decode answers. -/
def DecR8 (s : ByteArray) (w : World) (r : Ending) (w' : World) : Prop := ∃ p c, r = .returned (.tuple #[.agg #[.int .i64 (decV s), .slice p (decC s).length c], .bool (goodZ s)]) ∧ CP w' w'.heap.size p (decC s) ∧ (decC s).length ≤ c ∧ Keep (fun _ => False) w w'

set_option maxRecDepth 20000 in
set_option maxHeartbeats 32000000 in
theorem r_decode8 (s : ByteArray) (w : World) (hs : s.size ≤ 100000) :
    Calls Try.prog 12 #[.string s] w (DecR8 s w) := by
  obtain ⟨w1, hw1, hb1, hb2, hs1, hk1⟩ := box2 w #[.int .i64 0, .slice none 0 0] #[.int .i64 0, .slice none 0 0] 24 24
  have HA1 := hid hb1; have HS1 := hid hb2; have HK1 := hid hk1
  have HSZ1 := hid hs1
  clear hb1 hb2 hs1 hk1
  go_enter Try.func12, Try.ntmps12
  go_upto_region 2 with fail
  rw [← hw1]
  clear hw1
  obtain ⟨A, hA⟩ : ∃ A, w.heap.size = A := ⟨_, rfl⟩
  have HWA := hid hA
  rw [hA] at HA1 HS1 HSZ1 ⊢
  clear hA
  obtain ⟨S, hS⟩ : ∃ S, A + 1 = S := ⟨_, rfl⟩
  have HAS : Hid (A < S) := hid (by omega)
  have HSB : Hid (S < w1.heap.size) := hid (by have := HSZ1.out; omega)
  rw [hS] at HS1 ⊢
  clear hS HSZ1
  have HZERO : Hid (goodZ s = false → ∀ wy, Keep (fun _ => False) w wy → DecR8 s w (Ending.returned (.tuple #[.agg #[.int .i64 0, .slice none 0 0], .bool false])) ((wy.setCell ⟨A, 0, none⟩ (.int .i64 0)).setCell ⟨A, 1, none⟩ (.slice none 0 0))) := hid (fun hg wy hky => by
    obtain ⟨e1, e2⟩ := zeroZ hg
    unfold DecR8
    rw [e1, e2, hg]
    exact ⟨none, 0, rfl, .inl rfl, Nat.le_refl _, keep_new hky (((Keep.refl (fun k => k = A) wy).setCell (p := ⟨A, 0, none⟩) rfl _).setCell (p := ⟨A, 1, none⟩) rfl _) (fun k e => by have := HWA.out; omega)⟩)
  have d0 := cell_of HS1.out (i := 0) (by rfl)
  have d1 := cell_of HS1.out (i := 1) (by rfl)
  by_cases h6 : s.size < 6
  · have HG := hid (shortZ h6)
    have g1 : decide ((s.size : Int) < 6) = true := decide_eq_true (by omega)
    have g2 : decide (s.size < 6) = true := decide_eq_true h6
    have a0 := cell_of HA1.out (i := 0) (by rfl)
    have a1 := cell_of HA1.out (i := 1) (by rfl)
    have v0 := free_of HA1.out 0
    have v1 := free_of HA1.out 1
    go_wp2
    (try simp only [Exit.inBlock, Exit.then])
    refine bodyPost_ret (results_ct rfl _ rfl (load_schZ (cells2 (.int .i64 0) (.slice none 0 0) HA1.out))) rfl ?_
    exact HZERO.out HG.out w1 HK1.out
  have g1 : decide ((s.size : Int) < 6) = false := decide_eq_false (by omega)
  have g2 : decide (s.size < 6) = false := decide_eq_false h6
  obtain ⟨L, hL⟩ : ∃ L, s.data.toList = L := ⟨_, rfl⟩
  have HLE := hid hL
  have HLX : Hid (s = bsB L) := hid (by rw [← hL, bs_of])
  have HLL : Hid (L.length = s.size) := hid (by rw [← hL]; exact Array.length_toList)
  have HAT : Hid (∀ j (h : j < s.size), L[j]? = some (s[j]'h)) := hid (fun j h => by rw [← hL, Array.getElem?_toList]; exact Array.getElem?_eq_getElem h)
  clear hL
  have n0 : 0 < s.size := by omega
  have n1 : 1 < s.size := by omega
  have n2 : 2 < s.size := by omega
  have n3 : 3 < s.size := by omega
  have n4 : 4 < s.size := by omega
  have n5 : 5 < s.size := by omega
  have i0 : (0 : Int) < (s.size : Int) := by omega
  have i1 : (1 : Int) < (s.size : Int) := by omega
  have i2 : (2 : Int) < (s.size : Int) := by omega
  have i3 : (3 : Int) < (s.size : Int) := by omega
  have i4 : (4 : Int) < (s.size : Int) := by omega
  have i5 : (5 : Int) < (s.size : Int) := by omega
  obtain ⟨b0, hb0⟩ : ∃ b, (s[0]'n0).toNat = b := ⟨_, rfl⟩
  obtain ⟨b1, hb1⟩ : ∃ b, (s[1]'n1).toNat = b := ⟨_, rfl⟩
  obtain ⟨b2, hb2⟩ : ∃ b, (s[2]'n2).toNat = b := ⟨_, rfl⟩
  obtain ⟨b3, hb3⟩ : ∃ b, (s[3]'n3).toNat = b := ⟨_, rfl⟩
  obtain ⟨b4, hb4⟩ : ∃ b, (s[4]'n4).toNat = b := ⟨_, rfl⟩
  obtain ⟨n, hb5⟩ : ∃ b, (s[5]'n5).toNat = b := ⟨_, rfl⟩
  have l0 : b0 < 256 := by rw [← hb0]; exact (s[0]'n0).toNat_lt
  have l1 : b1 < 256 := by rw [← hb1]; exact (s[1]'n1).toNat_lt
  have l2 : b2 < 256 := by rw [← hb2]; exact (s[2]'n2).toNat_lt
  have l3 : b3 < 256 := by rw [← hb3]; exact (s[3]'n3).toNat_lt
  have l4 : b4 < 256 := by rw [← hb4]; exact (s[4]'n4).toNat_lt
  have l5 : n < 256 := by rw [← hb5]; exact (s[5]'n5).toNat_lt
  have HR0 : Hid (rdN 1 (s, false) = (b0, atS L 1)) := hid (by rw [at_zero, HLE.out, rd_byte (HAT.out 0 n0), hb0])
  by_cases h83 : b0 = 83
  rotate_left
  · have HG : Hid (goodZ s = false) := hid (noZ1 (by
      show (rdN 1 (s, false)).1 ≠ 83
      rw [HR0.out]; exact h83))
    have e1 : ((b0 : Int) != 83) = true := by rw [bne_iff_ne]; omega
    have e2 : (b0 != 83) = true := by rw [bne_iff_ne]; exact h83
    clear h83 hb1 hb2 hb3 hb4 hb5
    have a0 := cell_of HA1.out (i := 0) (by rfl)
    have a1 := cell_of HA1.out (i := 1) (by rfl)
    have v0 := free_of HA1.out 0
    have v1 := free_of HA1.out 1
    go_wp2
    (try simp only [Exit.inBlock, Exit.then])
    refine bodyPost_ret (results_ct rfl _ rfl (load_schZ (cells2 (.int .i64 0) (.slice none 0 0) HA1.out))) rfl ?_
    exact HZERO.out HG.out w1 HK1.out
  have e1 : ((b0 : Int) != 83) = false := by rw [h83]; rfl
  have e2 : (b0 != 83) = false := by rw [h83]; rfl
  obtain ⟨v, hv⟩ : ∃ v, b1 + b2 * 256 + b3 * 65536 + b4 * 16777216 = v := ⟨_, rfl⟩
  have HPZ : Hid (partsZ s = ⟨83, (v : Int), (rdRow rdC n (atS L 6)).1, (rdRow rdC n (atS L 6)).2⟩) := hid (by
    have k1 : rdN 4 (atS L 1) = (v, atS L 5) := by
      rw [rdN_at (by rw [HLL.out]; omega), drop_next (HAT.out 1 n1), List.take_succ_cons, drop_next (HAT.out 2 n2), List.take_succ_cons, drop_next (HAT.out 3 n3), List.take_succ_cons, drop_next (HAT.out 4 n4), List.take_succ_cons, List.take_zero]
      simp only [leN, hb1, hb2, hb3, hb4]
      rw [show b1 + 256 * (b2 + 256 * (b3 + 256 * (b4 + 256 * 0))) = v by omega]
    have k2 : rdN 1 (atS L 5) = (n, atS L 6) := by rw [rd_byte (HAT.out 5 n5), hb5]
    unfold partsZ
    simp only [HR0.out, k1, k2, h83])
  have HV : Hid ((b1 : Int) + (b2 : Int) * 256 + (b3 : Int) * 65536 + (b4 : Int) * 16777216 = (v : Int)) := hid (by omega)
  have HVL : Hid (v < 4294967296) := hid (by omega)
  have HN256 := hid l5
  clear h83 hv
  go_upto_region 4 with fail
  clear g1 g2 d0 d1 e1 e2 hb0 l0 i0 n0
  have HAd : Hid (w1.drew.heap[A]? = _) := HA1
  have HSd : Hid (w1.drew.heap[S]? = _) := HS1
  have HKd := hid HK1.out.drew
  have HSBd : Hid (S < w1.drew.heap.size) := HSB
  refine Plan.wp_region_pl [(false, 0, []), (false, 1, []), (false, 2, []), (false, 3, []), (false, 4, []), (false, 5, []), (false, 6, []), (false, 7, []), (false, 8, []), (false, 9, []), (false, 10, []), (false, 11, []), (false, 12, []), (false, 13, []), (false, 14, []), (false, 15, []), (false, 16, []), (false, 17, []), (false, 18, []), (true, 19, [])] (by as_aux_lemma => kernel_rfl) (by as_aux_lemma => kernel_rfl) ?_
  generalize w1.drew = w2 at *
  have d0 := cell_of HSd.out (i := 0) (by rfl)
  have f0 := free_of HSd.out 0
  iterate 19 (refine Plan.pl_st rfl ?_; go_big_quiet_step (fail); refine wpQuiet_nil ?_)
  refine Plan.pl_ac rfl ?_
  rw [HV.out]
  go_wp2
  have HS3 : Hid ((w2.setCell ⟨S, 0, none⟩ (.int .i64 (v : Int))).heap[S]? = some (.cells #[.int .i64 (v : Int), .slice none 0 0] 24 (0, 0))) := hid (by simpa using hsc_same HSd.out 0 (.int .i64 (v : Int)))
  have hks := (Keep.refl (fun k => k = S) w2).setCell (p := ⟨S, 0, none⟩) rfl (.int .i64 (v : Int))
  have HA3 := hid (hks.get HAd.out (fun e => by have := HAS.out; omega))
  have HK3 := hid (keep_new HKd.out hks (fun k e => by have := HAS.out; have := HWA.out; omega))
  have HSB3 : Hid (S < (w2.setCell ⟨S, 0, none⟩ (.int .i64 (v : Int))).heap.size) := hid (by have := HSBd.out; have := hks.size; omega)
  clear hks d0 f0
  generalize w2.setCell ⟨S, 0, none⟩ (.int .i64 (v : Int)) = w3 at *
  refine Plan.plQ_mk Plan.chk_end ?_
  refine Plan.pl_end ?_
  go_upto_region 7 with fail
  obtain ⟨i0, hi0, hz0, hz1, hz2⟩ := info_parts' info_cmpZ
  obtain ⟨i1', hi1', hy0, hy1, hy2⟩ := info_parts' info_fldZ
  obtain ⟨B1, hB1⟩ : ∃ B1, w3.heap.size = B1 := ⟨_, rfl⟩
  have HB1 := hid hB1
  have HSB1 : Hid (S < B1) := hid (by have := HSB3.out; omega)
  clear hB1 hb1 hb2 hb3 hb4 l1 l2 l3 l4 l5 i1 i2 i3 i4 n1 n2 n3 n4
  go_wp2_with fail
  go_loopw [5, 6, 7, 8, 9, 10, 11, 12, 13] (fun at_ i _ _ _ _ _ _ _ wr => ∃ (k : Nat) (out : List Cv) (p : Option Addr) (c a : Nat), k ≤ n ∧ i = iV k ∧ at_ = iV a ∧ out.length = k ∧ a ≤ L.length ∧ rdRow rdC n (atS L 6) = (out.map (·.1) ++ (rdRow rdC (n - k) (atS L a)).1, (rdRow rdC (n - k) (atS L a)).2) ∧
    wr.heap[S]? = some (.cells #[.int .i64 (v : Int), .slice p out.length c] 24 (0, 0)) ∧ wr.ownsRow B1 52 3 (.slice p out.length c) out.length (out.flatMap ccl) ∧ CVO wr B1 out ∧ (∀ x ∈ out, ∀ j, (Value.slice x.2.1 x.1.fs.length x.2.2).ownBlock = some j → (Value.slice p out.length c).ownBlock ≠ some j) ∧ Keep (fun g => g = S ∨ B1 ≤ g) w3 wr) (fun _ i _ _ _ _ _ _ _ _ => n + 1 - (RowKit.intOf i).toNat)
  case atStart => exact ⟨0, [], none, 0, 6, by omega, rfl, rfl, rfl, by rw [HLL.out]; omega, by simp, HS3.out, World.ownsRow_nil _ _ _ _, (fun x hx => by cases hx), (fun x hx => by cases hx), Keep.refl _ _⟩
  case round =>
    obtain ⟨k, out, p, c, a, hk, rfl, rfl, hol, hal, hrow, hS, hown, hcv, hap, hkr⟩ := hrel
    have HROW := hid hrow; have HS := hid hS; have HOWN := hid hown; have HKR := hid hkr
    have HOL := hid hol; have HCV := hid hcv; have HAP := hid hap; have HAL := hid hal
    have HKW := hid (keep_new HK3.out hkr (fun k e => by have := HAS.out; have := HWA.out; have := HSB1.out; omega))
    have HAwr := hid (hkr.get HA3.out (fun e => by have := HAS.out; have := HSB1.out; omega))
    have hl6 : s.size ≤ 100000 := hs
    have hal2 : a ≤ s.size := by rw [← HLL.out]; exact hal
    clear hrow hS hown hkr hol hcv hap hal
    have hn256 := HN256.out
    by_cases hlt : k < n
    · have HFAIL : Hid ((rdC (atS L a)).2.2 = true → goodZ s = false) := hid (fun h => noZ (by rw [HPZ.out]; exact row_bad rdC hlt HROW.out rfl h))
      have g1 : decide ((k : Int) < (n : Int)) = true := decide_eq_true (by omega)
      by_cases hge : s.size ≤ a
      · have HG := hid (HFAIL.out (rdC_bad1 (rdN_short (by rw [HLL.out]; omega) (by omega))))
        have g3 : decide ((s.size : Int) ≤ (a : Int)) = true := decide_eq_true (by omega)
        have g4 : decide (s.size ≤ a) = true := decide_eq_true hge
        have a0 := cell_of HAwr.out (i := 0) (by rfl)
        have a1 := cell_of HAwr.out (i := 1) (by rfl)
        have v0 := free_of HAwr.out 0
        have v1 := free_of HAwr.out 1
        go_wp2
        (try simp only [Exit.inBlock, Exit.then])
        refine bodyPost_ret (results_ct rfl _ rfl (load_schZ (cells2 (.int .i64 0) (.slice none 0 0) HAwr.out))) rfl ?_
        exact HZERO.out HG.out wr HKW.out
      have g3 : decide ((s.size : Int) ≤ (a : Int)) = false := decide_eq_false (by omega)
      have g4 : decide (s.size ≤ a) = false := decide_eq_false hge
      have hlta : a < s.size := by omega
      obtain ⟨id, hid0⟩ : ∃ b, (s[a]'hlta).toNat = b := ⟨_, rfl⟩
      have lid : id < 256 := by rw [← hid0]; exact (s[a]'hlta).toNat_lt
      have HRID : Hid (rdN 1 (atS L a) = (id, atS L (a + 1))) := hid (by rw [rd_byte (HAT.out a hlta), hid0])
      have hin : (0 : Int) ≤ (a : Int) ∧ (a : Int) < (s.size : Int) := ⟨by omega, by omega⟩
      obtain ⟨w4, hw4, hb4, hs4, hk4⟩ := box1 wr #[.int .i64 (id : Int), .string ⟨#[]⟩, .slice none 0 0] 52
      have HC4 := hid hb4; have HK4 := hid hk4
      have HA4 := hid (hk4.get HAwr.out (fun e => e))
      have HSwr : Hid (S < wr.heap.size) := hid (by have := HSB1.out; have := HB1.out; have := HKR.out.size; omega)
      have HZ4 := hid hs4
      clear hb4 hs4 hk4
      go_upto_region 12 with fail
      rw [← hw4]
      clear hw4 g1 g3 g4 hge hid0
      obtain ⟨C, hC⟩ : ∃ C, wr.heap.size = C := ⟨_, rfl⟩
      have HCW := hid hC
      rw [hC] at HC4 HSwr HZ4 ⊢
      clear hC
      have HTX := hid (r_text8 s (a + 1) w4 (by omega) (by omega))
      rw [HLE.out] at HTX
      have ha1 : ((a + 1 : Nat) : Int) = (a : Int) + 1 := by omega
      rw [ha1] at HTX
      clear ha1
      go_wp2_with fail
      refine HTX.out.mono ?_
      rintro r w_ ⟨htx, rfl⟩
      rcases htx with ⟨nm, rfl, hrn, hle, hns⟩ | ⟨rfl, hbad⟩
      rotate_left
      · have HG := hid (HFAIL.out (rdC_bad2 (by rw [HRID.out]; exact hbad)))
        have HKE := hid (HKW.out.trans HK4.out)
        clear hbad HTX
        have a0 := cell_of HA4.out (i := 0) (by rfl)
        have a1 := cell_of HA4.out (i := 1) (by rfl)
        have v0 := free_of HA4.out 0
        have v1 := free_of HA4.out 1
        go_wp2
        (try simp only [Exit.inBlock, Exit.then])
        refine bodyPost_ret (results_ct rfl _ rfl (load_schZ (cells2 (.int .i64 0) (.slice none 0 0) HA4.out))) rfl ?_
        exact HZERO.out HG.out w4 HKE.out
      obtain ⟨b, hb⟩ : ∃ b, a + 1 + 1 + nm.size = b := ⟨_, rfl⟩
      rw [hb] at hrn hle ⊢
      have HRN := hid hrn; have HLEB := hid hle
      have hbs : b ≤ s.size := by rw [← HLL.out]; exact hle
      clear hrn hle hb HTX hns
      have q0 : decide ((b : Int) < 0) = false := decide_eq_false (by omega)
      by_cases hbe : s.size ≤ b
      · have HG := hid (HFAIL.out (rdC_bad3 (by rw [HRID.out, HRN.out]; exact rdN_short (by rw [HLL.out]; omega) (by omega))))
        have HKE := hid (HKW.out.trans HK4.out)
        have g3 : decide ((s.size : Int) ≤ (b : Int)) = true := decide_eq_true (by omega)
        have g4 : decide (s.size ≤ b) = true := decide_eq_true hbe
        have a0 := cell_of HA4.out (i := 0) (by rfl)
        have a1 := cell_of HA4.out (i := 1) (by rfl)
        have v0 := free_of HA4.out 0
        have v1 := free_of HA4.out 1
        go_wp2
        (try simp only [Exit.inBlock, Exit.then])
        refine bodyPost_ret (results_ct rfl _ rfl (load_schZ (cells2 (.int .i64 0) (.slice none 0 0) HA4.out))) rfl ?_
        exact HZERO.out HG.out w4 HKE.out
      have g3 : decide ((s.size : Int) ≤ (b : Int)) = false := decide_eq_false (by omega)
      have g4 : decide (s.size ≤ b) = false := decide_eq_false hbe
      have hltb : b < s.size := by omega
      obtain ⟨m, hm⟩ : ∃ x, (s[b]'hltb).toNat = x := ⟨_, rfl⟩
      have lm : m < 256 := by rw [← hm]; exact (s[b]'hltb).toNat_lt
      have HRM : Hid (rdN 1 (atS L b) = (m, atS L (b + 1))) := hid (by rw [rd_byte (HAT.out b hltb), hm])
      have hinb : (0 : Int) ≤ (b : Int) ∧ (b : Int) < (s.size : Int) := ⟨by omega, by omega⟩
      have HRC : Hid (rdC (atS L a) = (⟨(id : Int), nm, (rdRow rdF m (atS L (b + 1))).1⟩, (rdRow rdF m (atS L (b + 1))).2)) := hid (by unfold rdC; simp only [HRID.out, HRN.out, HRM.out])
      have y1 := cell_of HC4.out (i := 1) (by rfl)
      have f1 := free_of HC4.out 1
      have HC5 : Hid ((w4.setCell ⟨C, 1, none⟩ (.string nm)).heap[C]? = some (.cells #[.int .i64 (id : Int), .string nm, .slice none 0 0] 52 (0, 0))) := hid (by simpa using hsc_same HC4.out 1 (.string nm))
      have HK5 : Hid (Keep (fun g => g = C) wr (w4.setCell ⟨C, 1, none⟩ (.string nm))) := hid (Keep.setCell (S := fun g => g = C) (HK4.out.mono (fun _ _ h => h.elim)) (p := ⟨C, 1, none⟩) rfl _)
      have HZ5 : Hid (C < (w4.setCell ⟨C, 1, none⟩ (.string nm)).heap.size) := hid (lt_of_heap HC5.out)
      go_upto_region 16 with fail
      clear y1 f1 q0 g3 g4 hbe
      generalize w4.setCell ⟨C, 1, none⟩ (.string nm) = w5 at *
      clear HC4 HK4 HA4 HZ4
      obtain ⟨b1', hb1'⟩ : ∃ x, b + 1 = x := ⟨_, rfl⟩
      have hbb : (b : Int) + 1 = (b1' : Int) := by omega
      have HBL : Hid (b1' ≤ L.length) := hid (by rw [HLL.out]; omega)
      rw [hb1'] at HRC
      clear hb1'
      go_wp2_with fail
      (try rw [hbb])
      clear hm hbb hinb hltb hbs
      obtain ⟨B2, hB2⟩ : ∃ B2, w5.heap.size = B2 := ⟨_, rfl⟩
      have HB2 := hid hB2
      have HCB2 : Hid (C < B2) := hid (by have := HZ5.out; omega)
      clear hB2
      go_loopw [5, 11, 12, 13] (fun at_ i _ _ wy => ∃ (j : Nat) (fs : List Fld) (q : Option Addr) (d a2 : Nat), j ≤ m ∧ i = iV j ∧ at_ = iV a2 ∧ fs.length = j ∧ a2 ≤ L.length ∧ rdRow rdF m (atS L b1') = (fs ++ (rdRow rdF (m - j) (atS L a2)).1, (rdRow rdF (m - j) (atS L a2)).2) ∧
        wy.heap[C]? = some (.cells #[.int .i64 (id : Int), .string nm, .slice q fs.length d] 52 (0, 0)) ∧ wy.ownsRow B2 49 3 (.slice q fs.length d) fs.length (fs.flatMap fcl) ∧ Keep (fun g => g = C ∨ B2 ≤ g) w5 wy) (fun _ i _ _ _ => m + 1 - (RowKit.intOf i).toNat)
      case atStart => exact ⟨0, [], none, 0, b1', by omega, rfl, rfl, rfl, HBL.out, by simp, HC5.out, World.ownsRow_nil _ _ _ _, Keep.refl _ _⟩
      case round =>
        obtain ⟨j, fs, q, d, a2, hj, rfl, rfl, hfl, hal3, hrowf, hCb, hownf, hkf⟩ := hrel
        have HROWF := hid hrowf; have HCb := hid hCb; have HOWNF := hid hownf; have HKF := hid hkf
        have HFL := hid hfl; have HAL2 := hid hal3
        have HKX := hid (Keep.trans' (S := fun g => g = C) (T := fun g => g = C ∨ B2 ≤ g) HK5.out hkf (fun g hg e => by have := HCB2.out; have := HCW.out; rcases e with e | e; exact e; omega))
        have hal4 : a2 ≤ s.size := by rw [← HLL.out]; exact hal3
        clear hrowf hCb hownf hkf hfl hal3
        by_cases hjt : j < m
        · have HFF : Hid ((rdF (atS L a2)).2.2 = true → goodZ s = false) := hid (fun h => HFAIL.out (by rw [HRC.out]; exact row_bad rdF hjt HROWF.out rfl h))
          have g1 : decide ((j : Int) < (m : Int)) = true := decide_eq_true (by omega)
          have HTX := hid (r_text8 s a2 wr (by omega) (by omega))
          rw [HLE.out] at HTX
          go_wp2_with fail
          refine HTX.out.mono ?_
          rintro r w_ ⟨htx, rfl⟩
          rcases htx with ⟨t, rfl, hrn, hle, hns⟩ | ⟨rfl, hbad⟩
          rotate_left
          · have HG := hid (HFF.out (rdF_bad1 hbad))
            have HKE := hid (keep_new HKW.out HKX.out (fun g e => by have := HCW.out; have := HWA.out; have := HAS.out; have := HSwr.out; omega))
            have HAE := hid (HKX.out.get HAwr.out (fun e => by have := HAS.out; have := HSwr.out; omega))
            clear hbad HTX g1
            have a0 := cell_of HAE.out (i := 0) (by rfl)
            have a1 := cell_of HAE.out (i := 1) (by rfl)
            have v0 := free_of HAE.out 0
            have v1 := free_of HAE.out 1
            go_wp2
            (try simp only [Exit.inBlock, Exit.then])
            refine bodyPost_ret (results_ct rfl _ rfl (load_schZ (cells2 (.int .i64 0) (.slice none 0 0) HAE.out))) rfl ?_
            exact HZERO.out HG.out wr HKE.out
          obtain ⟨e, he⟩ : ∃ e, a2 + 1 + t.size = e := ⟨_, rfl⟩
          rw [he] at hrn hle ⊢
          have HRNF := hid hrn
          have hes : e ≤ s.size := by rw [← HLL.out]; exact hle
          clear hrn hle he HTX hns g1
          have q0 : decide ((e : Int) < 0) = false := decide_eq_false (by omega)
          by_cases hee : s.size < e + 2
          · have HG := hid (HFF.out (rdF_bad2 HRNF.out (by rw [HLL.out]; exact hee)))
            have HKE := hid (keep_new HKW.out HKX.out (fun g e => by have := HCW.out; have := HWA.out; have := HAS.out; have := HSwr.out; omega))
            have HAE := hid (HKX.out.get HAwr.out (fun e => by have := HAS.out; have := HSwr.out; omega))
            have g3 : decide ((s.size : Int) < (e : Int) + 2) = true := decide_eq_true (by omega)
            have a0 := cell_of HAE.out (i := 0) (by rfl)
            have a1 := cell_of HAE.out (i := 1) (by rfl)
            have v0 := free_of HAE.out 0
            have v1 := free_of HAE.out 1
            go_wp2
            (try simp only [Exit.inBlock, Exit.then])
            refine bodyPost_ret (results_ct rfl _ rfl (load_schZ (cells2 (.int .i64 0) (.slice none 0 0) HAE.out))) rfl ?_
            exact HZERO.out HG.out wr HKE.out
          have g3 : decide ((s.size : Int) < (e : Int) + 2) = false := decide_eq_false (by omega)
          have hlte : e < s.size := by omega
          have hlte1 : e + 1 < s.size := by omega
          obtain ⟨kd, hkd⟩ : ∃ x, (s[e]'hlte).toNat = x := ⟨_, rfl⟩
          have lkd : kd < 256 := by rw [← hkd]; exact (s[e]'hlte).toNat_lt
          obtain ⟨e1, he1⟩ : ∃ x, e + 1 = x := ⟨_, rfl⟩
          have hlt1 : e1 < s.size := by omega
          obtain ⟨ct, hct⟩ : ∃ x, (s[e1]'hlt1).toNat = x := ⟨_, rfl⟩
          have lct : ct < 256 := by rw [← hct]; exact (s[e1]'hlt1).toNat_lt
          obtain ⟨e2, he2⟩ : ∃ x, e + 2 = x := ⟨_, rfl⟩
          have HRF : Hid (rdF (atS L a2) = (⟨t, (kd : Int), (ct : Int)⟩, atS L e2)) := hid (by
            have h1 := rdF_ok HRNF.out (HAT.out e hlte) (y := s[e1]'hlt1) (by rw [he1]; exact HAT.out e1 hlt1)
            rw [h1, hkd, hct, he2])
          have HE2L : Hid (e2 ≤ L.length) := hid (by rw [HLL.out]; omega)
          have HNEXT : Hid (rdRow rdF m (atS L b1') = ((fs ++ [⟨t, (kd : Int), (ct : Int)⟩]) ++ (rdRow rdF (m - (j + 1)) (atS L e2)).1, (rdRow rdF (m - (j + 1)) (atS L e2)).2)) := hid (by
            rw [HROWF.out, show m - j = (m - (j + 1)) + 1 by omega, rdRow_next rdF _ rfl, HRF.out]
            simp)
          have hine : (0 : Int) ≤ (e : Int) ∧ (e : Int) < (s.size : Int) := ⟨by omega, by omega⟩
          have hine1 : (0 : Int) ≤ (e1 : Int) ∧ (e1 : Int) < (s.size : Int) := ⟨by omega, by omega⟩
          have hee1 : (e : Int) + 1 = (e1 : Int) := by omega
          have hee2 : (e : Int) + 2 = (e2 : Int) := by omega
          clear hee he1 he2
          go_upto_region 24 with fail
          clear g3 q0
          have HCd : Hid (wr.drew.heap[C]? = _) := HCb
          have HOd := hid (owns_keep (w' := wr.drew) HOWNF.out (fun _ _ => rfl))
          have HKd2 := hid HKF.out.drew
          refine Plan.wp_region_pl [(false, 0, []), (false, 1, []), (false, 2, []), (false, 3, []), (false, 4, []), (false, 5, []), (false, 6, []), (false, 7, []), (false, 8, []), (false, 9, []), (false, 10, []), (false, 11, []), (false, 12, []), (true, 13, [1, 0]), (true, 14, []), (false, 15, []), (true, 16, [])] (by as_aux_lemma => kernel_rfl) (by as_aux_lemma => kernel_rfl) ?_
          generalize wr.drew = wd at *
          have c2 := cell_of HCd.out (i := 2) (by rfl)
          iterate 13 (refine Plan.pl_st rfl ?_; go_big_quiet_step (fail); refine wpQuiet_nil ?_)
          refine Plan.pl_ac rfl ?_
          obtain ⟨wb, hwb, hbb, hsb, hkb⟩ := box1 wd #[.string t, .int .i64 (kd : Int), .int .i64 (ct : Int)] 49
          have HBB := hid hbb
          have HCB := hid (hkb.get HCd.out (fun e => e))
          have HOB := hid (owns_keep HOd.out (fun j hj => hkb.block j (HOd.out.lt j hj).2 (fun e => e)))
          have HKB := hid (HKd2.out.trans (hkb.mono (T := fun g => g = C ∨ B2 ≤ g) (fun _ _ h => h.elim)))
          clear hbb hsb hkb
          go_wp2
          rw [← hwb]
          clear hwb c2
          have c2 := cell_of HCB.out (i := 2) (by rfl)
          refine Plan.plQ_mk ?_ ?_
          · iterate 2 (refine Plan.chk_st rfl ?_ ?_; focus (go_big_quiet_step (fail); exact wpQuiet_nil rfl))
            exact Plan.chk_end
          refine Plan.pl_ac rfl ?_
          refine wpList_append_rd rfl _ _ _ rfl B2 _ i1' _ 3 32 Try.underlying50 hi1' hy0 hy1 hy2 rfl (by decide) _ fs.length _ (by rfl) HOB.out _ 1 [.string t, .int .i64 (kd : Int), .int .i64 (ct : Int)] (by rfl) (rd_block HBB.out (by simp) (by simp [Value.oneCell'])) (by unfold maxLen; have := HFL.out; omega) (by have := HFL.out; omega) (by have := HKB.out.size; have := HB2.out; omega) ?_
          intro v' wn hown5 hgrow5 hat5 hn5
          obtain ⟨vp, vc, rfl⟩ := owns_val hown5
          have hCne : ∀ j, (Value.slice q fs.length d).ownBlock = some j → j ≠ C := fun j hj e => by have := (HOB.out.lt j hj).1; have := HCB2.out; omega
          have hC5 : wn.heap[C]? = some (.cells #[.int .i64 (id : Int), .string nm, .slice q fs.length d] 52 (0, 0)) := (hgrow5.block C (lt_of_heap HCB.out) (fun e => hCne C e.symm rfl)).trans HCB.out
          have hvne : ∀ j, (Value.slice vp (fs.length + 1) vc).ownBlock = some j → j ≠ C := fun j hj e => by have := (hown5.lt j hj).1; have := HCB2.out; omega
          clear c2
          have c2 : wn.cell? ⟨C, 2, none⟩ = some (.slice q fs.length d) := cell_of hC5 (by rfl)
          have f2 : wn.frozen? ⟨C, 2, none⟩ = false := free_of hC5 2
          have HCX : Hid ((wn.setCell ⟨C, 2, none⟩ (.slice vp (fs.length + 1) vc)).heap[C]? = some (.cells #[.int .i64 (id : Int), .string nm, .slice vp (fs.length + 1) vc] 52 (0, 0))) := hid (by simpa using hsc_same hC5 2 (.slice vp (fs.length + 1) vc))
          have HOX : Hid ((wn.setCell ⟨C, 2, none⟩ (.slice vp (fs.length + 1) vc)).ownsRow B2 49 3 (.slice vp (fs.length + 1) vc) (fs.length + 1) ((fs ++ [(⟨t, (kd : Int), (ct : Int)⟩ : Fld)]).flatMap fcl)) := hid (by
            rw [List.flatMap_append]
            exact owns_keep hown5 (fun g hg => hsc_ne _ (hvne g hg)))
          have HKX2 : Hid (Keep (fun g => g = C ∨ B2 ≤ g) w5 (wn.setCell ⟨C, 2, none⟩ (.slice vp (fs.length + 1) vc))) := hid (by
            refine Keep.setCell (Keep.grown HKB.out hgrow5 (fun k hk => .inr (.inr (HOB.out.lt k hk).1))) (p := ⟨C, 2, none⟩) (.inl rfl) _)
          clear hown5 hgrow5 hat5 hn5 hC5 hCne hvne
          go_wp2
          refine Plan.plQ_mk Plan.chk_end ?_
          iterate 1 (refine Plan.pl_st rfl ?_; go_big_quiet_step (fail); refine wpQuiet_nil ?_)
          refine Plan.pl_ac rfl ?_
          go_wp2
          refine Plan.plQ_mk Plan.chk_end ?_
          refine Plan.pl_end ?_
          clear c2 f2
          go_wp2
          go_roundw
          case rel => exact ⟨j + 1, fs ++ [⟨t, (kd : Int), (ct : Int)⟩], vp, vc, e2, by omega, by go_num, by first | rfl | (rw [hee2]) | go_num, by rw [List.length_append, HFL.out]; rfl, HE2L.out, HNEXT.out, by rw [List.length_append]; exact HCX.out, by rw [List.length_append]; exact HOX.out, HKX2.out⟩
          case measure => simp [RowKit.intOf]; omega
        · obtain rfl : j = m := by omega
          have HRE : Hid (rdC (atS L a) = (⟨(id : Int), nm, fs⟩, atS L a2)) := hid (by
            have h := HROWF.out
            rw [Nat.sub_self] at h
            rw [HRC.out, h]
            simp [rdRow])
          have HNEXT : Hid (∀ z : Option Addr × Nat, rdRow rdC n (atS L 6) = ((out ++ [((⟨(id : Int), nm, fs⟩, z) : Cv)]).map (·.1) ++ (rdRow rdC (n - (k + 1)) (atS L a2)).1, (rdRow rdC (n - (k + 1)) (atS L a2)).2)) := hid (fun z => by
            rw [HROW.out, show n - k = (n - (k + 1)) + 1 by omega, rdRow_next rdC _ rfl, HRE.out]
            simp)
          have HS7 := hid (HKX.out.get HS.out (fun e => by have := HSwr.out; omega))
          have HO7 := hid (owns_keep HOWN.out (fun g hg => HKX.out.block g (HOWN.out.lt g hg).2 (fun e => by have := (HOWN.out.lt g hg).2; have := HCW.out; omega)))
          have HCV7 := hid (CVO.keep HCV.out HKX.out (fun x hx g hg e => by have := ((HCV.out x hx).lt g hg).2; have := HCW.out; omega))
          have HBC : Hid (B1 ≤ C) := hid (by have := HKR.out.size; have := HB1.out; have := HCW.out; omega)
          have HKR7 := hid (HKR.out.trans (HKX.out.mono (T := fun g => g = S ∨ B1 ≤ g) (fun g _ e => .inr (by have := HBC.out; omega))))
          obtain ⟨wb, hwb, hbb, hsb, hkb⟩ := box1 wr #[.int .i64 (id : Int), .string nm, .slice q fs.length d] 52
          have HBB := hid hbb
          have HSB2 := hid (hkb.get HS7.out (fun e => e))
          have HOB := hid (owns_keep HO7.out (fun g hg => hkb.block g (HO7.out.lt g hg).2 (fun e => e)))
          have HCVB := hid (CVO.keep HCV7.out hkb (fun x hx g hg e => e))
          have HFB := hid (owns_keep HOWNF.out (fun g hg => hkb.block g (HOWNF.out.lt g hg).2 (fun e => e)))
          have HKB := hid (HKR7.out.trans (hkb.mono (T := fun g => g = S ∨ B1 ≤ g) (fun _ _ h => h.elim)))
          have HSZB := hid hsb
          clear hbb hsb hkb
          have g1 : decide ((j : Int) < (j : Int)) = false := decide_eq_false (by omega)
          have c0 := cell_of HCb.out (i := 0) (by rfl)
          have c1 := cell_of HCb.out (i := 1) (by rfl)
          have c2 := cell_of HCb.out (i := 2) (by rfl)
          have s1 := cell_of HS7.out (i := 1) (by rfl)
          have hol : out.length ≤ 255 := by have := HOL.out; omega
          go_wp2_with (at_builtin; go_loud (rw [← hwb]); go_loud (refine wpList_append_rd rfl (.tmp 124) (.tmp 126) _ rfl B1 _ i0 _ 3 48 Try.underlying22 hi0 hz0 hz1 hz2 rfl (by decide) _ out.length _ (by rfl) HOB.out _ 1 (ccl (⟨(id : Int), nm, fs⟩, q, d)) (by rfl) (rd_block HBB.out (by simp [ccl]) (ccl_one _)) (by unfold maxLen; omega) (by omega) (by have := HKB.out.size; have := HB1.out; omega) ?_))
          intro v' wn hown5 hgrow5 hat5 hn5
          rw [← hwb] at hgrow5
          clear hwb
          obtain ⟨vp, vc, rfl⟩ := owns_val hown5
          have hSne : ∀ g, (Value.slice p out.length c).ownBlock = some g → g ≠ S := fun g hg e => by have := (HOB.out.lt g hg).1; have := HSB1.out; omega
          have hS5 : wn.heap[S]? = some (.cells #[.int .i64 (v : Int), .slice p out.length c] 24 (0, 0)) := (hgrow5.block S (lt_of_heap HSB2.out) (fun e => hSne S e.symm rfl)).trans HSB2.out
          have hvne : ∀ g, (Value.slice vp (out.length + 1) vc).ownBlock = some g → g ≠ S := fun g hg e => by have := (hown5.lt g hg).1; have := HSB1.out; omega
          clear c0 c1 c2 s1 g1 hol
          have s1 : wn.cell? ⟨S, 1, none⟩ = some (.slice p out.length c) := cell_of hS5 (by rfl)
          have f2 : wn.frozen? ⟨S, 1, none⟩ = false := free_of hS5 1
          have HSX : Hid ((wn.setCell ⟨S, 1, none⟩ (.slice vp (out.length + 1) vc)).heap[S]? = some (.cells #[.int .i64 (v : Int), .slice vp (out.length + 1) vc] 24 (0, 0))) := hid (by simpa using hsc_same hS5 1 (.slice vp (out.length + 1) vc))
          have HOX : Hid ((wn.setCell ⟨S, 1, none⟩ (.slice vp (out.length + 1) vc)).ownsRow B1 52 3 (.slice vp (out.length + 1) vc) (out.length + 1) ((out ++ [((⟨(id : Int), nm, fs⟩, q, d) : Cv)]).flatMap ccl)) := hid (by
            rw [List.flatMap_append]
            simpa using owns_keep hown5 (fun g hg => hsc_ne _ (hvne g hg)))
          have hrow : ∀ x ∈ out ++ [((⟨(id : Int), nm, fs⟩, q, d) : Cv)], ∀ g, (Value.slice x.2.1 x.1.fs.length x.2.2).ownBlock = some g → g < wb.heap.size ∧ B1 ≤ g ∧ (Value.slice p out.length c).ownBlock ≠ some g := fun x hx g hg => by
            rcases List.mem_append.1 hx with hx | hx
            · exact ⟨((HCVB.out x hx).lt g hg).2, ((HCVB.out x hx).lt g hg).1, HAP.out x hx g hg⟩
            · rw [List.mem_singleton] at hx
              subst hx
              have h1 := HFB.out.lt g hg
              refine ⟨h1.2, by have := HBC.out; have := HCB2.out; omega, fun e => ?_⟩
              have := (HOWN.out.lt g e).2
              have := HCW.out; have := HCB2.out
              omega
          have HCX : Hid (CVO (wn.setCell ⟨S, 1, none⟩ (.slice vp (out.length + 1) vc)) B1 (out ++ [(⟨(id : Int), nm, fs⟩, q, d)])) := hid (by
            intro x hx
            have hr := hrow x hx
            have hb : wb.ownsRow B1 49 3 (.slice x.2.1 x.1.fs.length x.2.2) x.1.fs.length (x.1.fs.flatMap fcl) := by
              rcases List.mem_append.1 hx with hx | hx
              · exact HCVB.out x hx
              · rw [List.mem_singleton] at hx
                subst hx
                exact owns_mono HFB.out (by have := HBC.out; have := HCB2.out; omega)
            refine owns_keep hb (fun g hg => ?_)
            rw [hsc_ne _ (show g ≠ S by have := (hr g hg).2.1; have := HSB1.out; omega)]
            exact hgrow5.block g (hr g hg).1 (fun e => (hr g hg).2.2 e.symm))
          have HAX : Hid (∀ x ∈ out ++ [((⟨(id : Int), nm, fs⟩, q, d) : Cv)], ∀ g, (Value.slice x.2.1 x.1.fs.length x.2.2).ownBlock = some g → (Value.slice vp (out.length + 1) vc).ownBlock ≠ some g) := hid (fun x hx g hg e => by
            have hr := hrow x hx g hg
            rcases hat5 with h | h
            · exact hr.2.2 (h ▸ e)
            · rw [h] at e; injection e with e; have := HSZB.out; omega)
          have HKX2 : Hid (Keep (fun g => g = S ∨ B1 ≤ g) w3 (wn.setCell ⟨S, 1, none⟩ (.slice vp (out.length + 1) vc))) := hid (by
            refine Keep.setCell (Keep.grown HKB.out hgrow5 (fun k hk => .inr (.inr (HOB.out.lt k hk).1))) (p := ⟨S, 1, none⟩) (.inl rfl) _)
          clear hown5 hgrow5 hat5 hn5 hS5 hSne hvne hrow
          go_wp2
          go_roundw
          case rel => exact ⟨k + 1, out ++ [((⟨(id : Int), nm, fs⟩, q, d) : Cv)], vp, vc, a2, by omega, by go_num, rfl, by rw [List.length_append, HOL.out]; rfl, HAL2.out, HNEXT.out _, by rw [List.length_append]; exact HSX.out, by rw [List.length_append]; exact HOX.out, HCX.out, by rw [List.length_append]; exact HAX.out, HKX2.out⟩
          case measure => simp [RowKit.intOf]; omega
    · obtain rfl : k = n := by omega
      have g1 : decide ((k : Int) < (k : Int)) = false := decide_eq_false (by omega)
      have hrw := HROW.out
      rw [Nat.sub_self] at hrw
      have HPF : Hid (partsZ s = ⟨83, (v : Int), out.map (·.1), atS L a⟩) := hid (by rw [HPZ.out, hrw]; simp [rdRow])
      clear hrw
      have HSZA : Hid ((atS L a).1.size = s.size - a) := hid (by unfold atS; rw [bs_size, List.length_drop, HLL.out])
      obtain ⟨cs, hcs⟩ : ∃ cs : List Cmp, out.map (·.1) = cs := ⟨_, rfl⟩
      have HCL : Hid (cs.length = out.length) := hid (by rw [← hcs, List.length_map])
      have HCP : Hid (∀ wy, Keep (fun _ => False) wr wy → CP wy wy.heap.size p cs) := hid (fun wy hk => by
        have h := cp_own rfl HOWN.out (CVO.cv HCV.out)
        rw [hcs] at h
        exact CP.mono (CP.low h (Low.keep0 hk)) hk.size)
      rw [hcs] at HPF
      have HSM : Hid (Small cs) := hid (by
        have h1 := HOL.out; have h2 := HCL.out
        have h3 := rdRow_all rdC (fun c => c.fs.length ≤ 255) rdC_fs k (atS L 6)
        have h4 := HROW.out
        rw [Nat.sub_self] at h4
        rw [h4] at h3
        refine ⟨by omega, fun c hc => ?_⟩
        have := h3 c (by simp [rdRow, hcs, hc])
        omega)
      have HCSO := hid hcs
      clear hcs
      have HCAP : Hid (cs.length ≤ c) := hid (by rw [HCL.out]; exact owns_capZ HOWN.out)
      have HSC : Hid (wr.heap[S]? = some (.cells #[.int .i64 (v : Int), .slice p cs.length c] 24 (0, 0))) := hid (by rw [HCL.out]; exact HS.out)
      have HCHK := hid (r_check (v : Int) cs p c wr HSM.out (HCP.out wr (Keep.refl _ _)))
      by_cases hae : a = s.size
      rotate_left
      · have HG : Hid (goodZ s = false) := hid (noZ2 (by rw [HPF.out]; show (atS L a).1.size ≠ 0; rw [HSZA.out]; omega))
        have g3 : ((a : Int) != (s.size : Int)) = true := by rw [bne_iff_ne]; omega
        have g4 : (a != s.size) = true := by rw [bne_iff_ne]; exact hae
        clear hae
        have a0 := cell_of HAwr.out (i := 0) (by rfl)
        have a1 := cell_of HAwr.out (i := 1) (by rfl)
        have v0 := free_of HAwr.out 0
        have v1 := free_of HAwr.out 1
        go_wp2
        (try simp only [Exit.inBlock, Exit.then])
        refine bodyPost_ret (results_ct rfl _ rfl (load_schZ (cells2 (.int .i64 0) (.slice none 0 0) HAwr.out))) rfl ?_
        exact HZERO.out HG.out wr HKW.out
      have g3 : ((a : Int) != (s.size : Int)) = false := by rw [hae]; simp
      have g4 : (a != s.size) = false := by rw [hae]; simp
      have HGZ : Hid (goodZ s = decide (checkC (v : Int) cs = 0)) := hid (by
        unfold goodZ
        rw [HPF.out]
        have h : (atS L a).1.size = 0 := by rw [HSZA.out]; omega
        have h2 : (atS L a).2 = false := rfl
        simp only [h, h2]
        simp)
      obtain ⟨E, hE⟩ : ∃ E, checkC (v : Int) cs = E := ⟨_, rfl⟩
      rw [hE] at HCHK HGZ
      clear hE hae
      have s0 := cell_of HSC.out (i := 0) (by rfl)
      have s1 := cell_of HSC.out (i := 1) (by rfl)
      go_wp2_with fail
      refine HCHK.out.mono ?_
      rintro r wq ⟨rfl, hkq⟩
      have HKQ := hid (HKW.out.trans hkq); have HSQ := hid (hkq.get HSC.out id); have HAQ := hid (hkq.get HAwr.out id)
      have HKWQ := hid hkq
      clear hkq s0 s1 g3 g4
      by_cases hE0 : E = 0
      rotate_left
      · have HG : Hid (goodZ s = false) := hid (by rw [HGZ.out, decide_eq_false hE0])
        have g3 : ((E : Int) != 0) = true := by rw [bne_iff_ne]; omega
        have g4 : (E != 0) = true := by rw [bne_iff_ne]; exact hE0
        clear hE0
        have a0 := cell_of HAQ.out (i := 0) (by rfl)
        have a1 := cell_of HAQ.out (i := 1) (by rfl)
        have v0 := free_of HAQ.out 0
        have v1 := free_of HAQ.out 1
        go_wp2
        (try simp only [Exit.inBlock, Exit.then])
        refine bodyPost_ret (results_ct rfl _ rfl (load_schZ (cells2 (.int .i64 0) (.slice none 0 0) HAQ.out))) rfl ?_
        exact HZERO.out HG.out wq HKQ.out
      have HGT : Hid (goodZ s = true) := hid (by rw [HGZ.out, decide_eq_true hE0])
      have g3 : ((E : Int) != 0) = false := by rw [hE0]; rfl
      have g4 : (E != 0) = false := by rw [hE0]; rfl
      have s0 := cell_of HSQ.out (i := 0) (by rfl)
      have s1 := cell_of HSQ.out (i := 1) (by rfl)
      have a0 := cell_of HAQ.out (i := 0) (by rfl)
      have a1 := cell_of HAQ.out (i := 1) (by rfl)
      have v0 := free_of HAQ.out 0
      have v1 := free_of HAQ.out 1
      clear hE0 HCHK
      go_wp2
      (try simp only [Exit.inBlock, Exit.then])
      refine bodyPost_ret (results_ct rfl _ rfl (load_schZ (cells2 (.int .i64 (v : Int)) (.slice p cs.length c) HAQ.out))) rfl ?_
      have hkf := ((Keep.refl (fun k => k = A) wq).setCell (p := ⟨A, 0, none⟩) rfl (.int .i64 (v : Int))).setCell (p := ⟨A, 1, none⟩) rfl (.slice p cs.length c)
      have e1 : decV s = (v : Int) := by unfold decV; rw [if_pos HGT.out, HPF.out]
      have e2 : decC s = cs := by unfold decC; rw [if_pos HGT.out, HPF.out]
      unfold DecR8
      rw [e1, e2, HGT.out]
      refine ⟨p, c, rfl, ?_, HCAP.out, keep_new HKQ.out hkf (fun k e => by have := HWA.out; omega)⟩
      have hcv := CVO.keep HCV.out (HKWQ.out.mono (T := fun k => k = A) (fun _ _ h => h.elim) |>.trans hkf) (fun x hx g hg e => by have := ((HCV.out x hx).lt g hg).1; have := HSB1.out; have := HAS.out; omega)
      have hoc := owns_keep HOWN.out (fun g hg => ((HKWQ.out.mono (T := fun k => k = A) (fun _ _ h => h.elim)).trans hkf).block g (HOWN.out.lt g hg).2 (fun e => by have := (HOWN.out.lt g hg).1; have := HSB1.out; have := HAS.out; omega))
      have hcp := cp_own rfl hoc hcv.cv
      rw [HCSO.out] at hcp
      exact hcp
end Go.Proofs.Ytfehiclbcebnoaa

namespace Go.Proofs.Ytfehiclbcebnoaa
open Go.RowKit Go.Proofs.Heap Go.Proofs.Sch Go.Proofs.Wide

set_option maxRecDepth 20000 in
set_option maxHeartbeats 32000000 in
theorem sc_exact (v : Int) (cs : List Cmp) (pa : Option Addr) (ca : Nat) (bytes : ByteArray) (w : World) (hA : CP w w.heap.size pa cs) :
    Calls Try.prog 3 #[.agg #[.int .i64 v, .slice pa cs.length ca], .string bytes] w fun r w' => r = .returned (.bool true) ∧ Keep (fun _ => False) w w' := by
  obtain ⟨w1, hw1, hb1, hs1, hk1⟩ := box1 w #[.int .i64 v, .slice pa cs.length ca] 24
  have HK1 := hid hk1; have HA1 := hid hb1
  have HIA := hid (fun (wy : World) (hk : Keep (fun _ => False) w wy) => CP.mono (CP.low hA (Low.keep0 hk)) hk.size)
  clear hb1 hs1 hk1 hA
  go_enter Try.func3, Try.ntmps3
  go_upto_region 1 with fail
  rw [← hw1]
  clear hw1
  generalize w.heap.size = aB at *
  go_wp2_with fail
  refine (sc_awake w1).mono ?_
  rintro r w2 ⟨rfl, hk⟩
  have HA2 := hid (hk.get HA1.out id); have HK2 := hid (HK1.out.trans hk)
  clear hk
  have a0 := cell_of HA2.out (i := 0) (by rfl)
  have a1 := cell_of HA2.out (i := 1) (by rfl)
  go_wp2_with fail
  refine (sz_great v cs pa ca w2 (HIA.out w2 HK2.out)).mono ?_
  rintro r w3 ⟨rfl, hk⟩
  have HA3 := hid (hk.get HA2.out id); have HK3 := hid (HK2.out.trans hk)
  clear hk
  clear a0 a1
  by_cases ga : FairZS cs
  rotate_left
  · rw [decide_eq_false ga]
    clear ga
    go_wp2
    go_ret
    exact ⟨rfl, HK3.out⟩
  rw [decide_eq_true ga]
  have HSA := hid ga.small
  clear ga
  by_cases hl : 4096 < bytes.size
  · have g1 : decide ((4096 : Int) < (bytes.size : Int)) = true := decide_eq_true (by omega)
    have g2 : decide (4096 < bytes.size) = true := decide_eq_true hl
    go_wp2
    go_ret
    exact ⟨rfl, HK3.out⟩
  have g1 : decide ((4096 : Int) < (bytes.size : Int)) = false := decide_eq_false (by omega)
  have g2 : decide (4096 < bytes.size) = false := decide_eq_false hl
  have HBS : Hid (bytes.size ≤ 4096) := hid (by omega)
  clear hl
  have a0 := cell_of HA3.out (i := 0) (by rfl)
  have a1 := cell_of HA3.out (i := 1) (by rfl)
  go_wp2_with fail
  refine (sc_encode v cs pa ca w3 HSA.out (HIA.out w3 HK3.out)).mono ?_
  rintro r w4 ⟨rfl, hk⟩
  have HA4 := hid (hk.get HA3.out id); have HK4 := hid (HK3.out.trans hk)
  clear hk g1 g2
  clear a0 a1
  have a0 := cell_of HA4.out (i := 0) (by rfl)
  have a1 := cell_of HA4.out (i := 1) (by rfl)
  have HCH := hid (r_check v cs pa ca w4 HSA.out (HIA.out w4 HK4.out))
  have HEN : Hid (∀ (hz : checkC v cs = 0) wy (hk : Keep (fun _ => False) w wy), Calls Try.prog 10 #[.agg #[.int .i64 v, .slice pa cs.length ca]] wy fun r w' => r = .returned (.string (encZ v cs)) ∧ Keep (fun _ => False) wy w') := hid (fun hz wy hk => by
    have e : encZ v cs = bsB (schL v cs) := if_pos hz
    rw [e]
    exact r_encode8 v cs pa ca wy hz (HIA.out wy hk))
  have HEZ : Hid (checkC v cs = 0 ∨ (checkC v cs ≠ 0 ∧ (encZ v cs).toList.isEmpty = true)) := hid (by
    by_cases hz : checkC v cs = 0
    · exact .inl hz
    · refine .inr ⟨hz, ?_⟩
      have e : encZ v cs = ⟨#[]⟩ := if_neg hz
      rw [e, tl_eq]; rfl)
  generalize encZ v cs = ez at *
  obtain ⟨C, hC⟩ : ∃ C, checkC v cs = C := ⟨_, rfl⟩
  rw [hC] at HCH HEN HEZ ⊢
  clear hC
  go_wp2_with fail
  refine HCH.out.mono ?_
  rintro r w5 ⟨rfl, hk⟩
  have HA5 := hid (hk.get HA4.out id); have HK5 := hid (HK4.out.trans hk)
  clear hk HCH
  clear a0 a1
  have a0 := cell_of HA5.out (i := 0) (by rfl)
  have a1 := cell_of HA5.out (i := 1) (by rfl)
  have hse : ((C : Int) != (C : Int)) = false := by simp
  have hse2 : (C != C) = false := by simp
  go_upto_region 7 with fail
  go_cut [48] from 28 to 74 (fun u wx => u = .bool false ∧ Keep (fun _ => False) w5 wx)
  case first =>
    rcases HEZ.out with hz | ⟨hz, he⟩
    · have HE2 := hid (HEN.out hz w5 HK5.out)
      have g1 : ((C : Int) == 0) = true := by rw [hz]; rfl
      have g2 : (C == 0) = true := by rw [hz]; rfl
      have g3 : ((C : Int) != 0) = false := by rw [hz]; rfl
      have g4 : (C != 0) = false := by rw [hz]; rfl
      have hbb : (!ez.toList == ez.toList) = false := by simp
      clear hz
      go_wp2_with fail
      refine HE2.out.mono ?_
      rintro r w6 ⟨rfl, hk⟩
      have HKX := hid hk
      clear hk
      clear a0 a1
      go_wp2
      go_meet
      case rel => exact ⟨rfl, HKX.out⟩
    · have g1 : ((C : Int) == 0) = false := by rw [beq_eq_false_iff_ne]; omega
      have g2 : (C == 0) = false := by rw [beq_eq_false_iff_ne]; exact hz
      have g3 : ((C : Int) != 0) = true := by rw [bne_iff_ne]; omega
      have g4 : (C != 0) = true := by rw [bne_iff_ne]; exact hz
      clear hz
      go_wp2
      go_meet
      case rel => exact ⟨rfl, Keep.refl _ _⟩
  case rest =>
  obtain ⟨rfl, hkc⟩ := hcut
  have HK6 := hid (HK5.out.trans hkc)
  clear hkc HA5 HA4 HEN HEZ
  generalize wc = w6 at *
  go_wp2_with fail
  refine (sc_decode bytes w6 (by have := HBS.out; omega)).mono ?_
  rintro r w7 ⟨p7, c7, rfl, hcp, hcl, hk⟩
  have HK7 := hid (HK6.out.trans hk); have HCP7 := hid hcp
  clear hk hcp hcl
  obtain ⟨w8, hw8, hb8, hs8, hk8⟩ := box1 w7 #[.int .i64 (decV bytes), .slice p7 (decC bytes).length c7] 24
  have HT8 := hid hb8; have HK8 := hid (HK7.out.trans hk8); have HCP8 := hid (CP.mono (CP.low HCP7.out (Low.keep0 hk8)) hk8.size)
  clear hb8 hs8 hk8 HCP7
  go_upto_region 10 with fail
  rw [← hw8]
  clear hw8
  generalize w7.heap.size = tB at *
  go_wp2_with fail
  refine (r_decode8 bytes w8 (by have := HBS.out; omega)).mono ?_
  rintro r w9 ⟨p9, c9, rfl, hcp, hcl, hk⟩
  have HK9 := hid (HK8.out.trans hk); have HT9 := hid (hk.get HT8.out id); have HCP9 := hid hcp
  have HCT9 := hid (CP.mono (CP.low HCP8.out (Low.keep0 hk)) hk.size)
  clear hk hcp hcl HT8 HCP8
  obtain ⟨w10, hw10, hb10, hs10, hk10⟩ := box1 w9 #[.int .i64 (decV bytes), .slice p9 (decC bytes).length c9] 24
  have HU10 := hid hb10; have HT10 := hid (hk10.get HT9.out id); have HK10 := hid (HK9.out.trans hk10)
  have HCU := hid (CP.mono (CP.low HCP9.out (Low.keep0 hk10)) hk10.size); have HCT := hid (CP.mono (CP.low HCT9.out (Low.keep0 hk10)) hk10.size)
  clear hb10 hs10 hk10 HCP9 HCT9 HT9
  go_upto_region 11 with fail
  rw [← hw10]
  clear hw10
  generalize w9.heap.size = uB at *
  have HSM : Hid (Small (decC bytes)) := hid (by
    cases hg : goodZ bytes
    · rw [(zeroZ hg).2]; exact ⟨by simp, fun c hc => by cases hc⟩
    · exact small_ok (goodZ_of hg).2.2.1)
  have HSAME := hid (r_same (decV bytes) (decV bytes) (decC bytes) (decC bytes) p7 p9 c7 c9 w10 HSM.out HCT.out HCU.out)
  rw [decide_eq_true (⟨rfl, rfl⟩ : decV bytes = decV bytes ∧ decC bytes = decC bytes)] at HSAME
  have HDE : Hid ((goodZ bytes = true ∧ decEZ bytes = 0) ∨ (goodZ bytes = false ∧ decEZ bytes = 4)) := hid (by
    unfold decEZ
    cases goodZ bytes
    · exact .inr ⟨rfl, rfl⟩
    · exact .inl ⟨rfl, rfl⟩)
  generalize decV bytes = dv at *
  generalize decC bytes = dc at *
  have t0 := cell_of HT10.out (i := 0) (by rfl)
  have t1 := cell_of HT10.out (i := 1) (by rfl)
  have u0 := cell_of HU10.out (i := 0) (by rfl)
  have u1 := cell_of HU10.out (i := 1) (by rfl)
  rcases HDE.out with ⟨h1, h2⟩ | ⟨h1, h2⟩
  · rw [h1, h2]
    clear h1 h2
    go_wp2_with fail
    refine HSAME.out.mono ?_
    rintro r w11 ⟨rfl, hk⟩
    have HK11 := hid (HK10.out.trans hk)
    clear hk
    go_wp2
    go_ret
    exact ⟨rfl, HK11.out⟩
  · rw [h1, h2]
    clear h1 h2
    go_wp2_with fail
    refine HSAME.out.mono ?_
    rintro r w11 ⟨rfl, hk⟩
    have HK11 := hid (HK10.out.trans hk)
    clear hk
    go_wp2
    go_ret
    exact ⟨rfl, HK11.out⟩
end Go.Proofs.Ytfehiclbcebnoaa

namespace Go.Proofs.Ytfehiclbcebnoaa
open Go.ChangeShapes Go.WideShapes Go.ChangeAt Go.RowKit Go.Proofs.Heap Go.Proofs.Sch

section
variable {H : Type} {enc : TypeId × Value → H} {W : World}

theorem addr_add (b off i : Nat) : (⟨b, off, none⟩ : Addr).add i = ⟨b, off + i, none⟩ := by unfold Addr.add; split <;> simp_all

/-- A row of things that a law is handed. -/
theorem open_row {α : Type} {z : Nat} {t e : TypeId} (ht : Try.prog.underlying t = some (.slice e)) (hsz : Try.prog.cellsOf e = z) (at_ : World → Nat → Nat → α → Prop)
    (hel : ∀ (a : Addr) (n : Nat) (cs : List Value) (D : DataW H × List MemPlace), W.cells? 0 a z = some cs → DataW.trod enc Try.prog W 0 (fun _ => true) true n e cs = some D → a.spot = none ∧ a.block < W.heap.size ∧ ∃ x : α, at_ W a.block a.off x)
    {fuel : Nat} {cs : List Value} {x : DataW H × List MemPlace} (h : DataW.trod enc Try.prog W 0 (fun _ => true) true fuel t cs = some x) :
    ∃ (p : Option Addr) (c : Nat) (l : List α), cs = [.slice p l.length c] ∧ l.length ≤ c ∧ RowP z at_ W W.heap.size p l := by
  rcases Go.Deep.open_slice ht h with ⟨hcs, _⟩ | ⟨a, len, cap, m, n, D, Pl, hcs, _, hl, hm, hz', _, hcell⟩
  · exact ⟨none, 0, [], hcs, Nat.le_refl _, .inl rfl⟩
  · have hmc : m = cap := by simpa using hz'
    subst hmc
    rw [hsz] at hcell
    by_cases hl0 : len = 0
    · subst hl0
      exact ⟨some a, m, [], hcs, Nat.zero_le _, .inl rfl⟩
    · obtain ⟨b, off, spot⟩ := a
      have hblk : spot = none ∧ b < W.heap.size := by
        obtain ⟨cs', hc1, hc2⟩ := hcell 0 (by omega)
        obtain ⟨h1, h2, _⟩ := hel _ _ _ _ hc1 hc2
        refine ⟨?_, by simpa [Addr.add] using h2⟩
        simpa [Addr.add] using h1
      obtain ⟨rfl, hb⟩ := hblk
      have key : ∀ k, k ≤ len → ∃ l : List α, l.length = k ∧ ∀ i y, l[i]? = some y → at_ W b (off + i * z) y := by
        intro k
        induction k with
        | zero => exact fun _ => ⟨[], rfl, fun i y hy => by simp at hy⟩
        | succ k ih =>
          intro hk
          obtain ⟨l, hll, hla⟩ := ih (by omega)
          obtain ⟨cs', hc1, hc2⟩ := hcell k (by omega)
          obtain ⟨_, _, y, hy⟩ := hel _ _ _ _ hc1 hc2
          rw [addr_add] at hy
          refine ⟨l ++ [y], by simp [hll], fun i u hu => ?_⟩
          by_cases hik : i < k
          · rw [List.getElem?_append_left (by omega)] at hu
            exact hla i u hu
          · rw [List.getElem?_append_right (by omega)] at hu
            have : i = k := by
              have := (List.getElem?_eq_some_iff.1 hu).1
              simp at this
              omega
            subst this
            simp [hll] at hu
            subst hu
            exact hy
      obtain ⟨l, hll, hla⟩ := key len (Nat.le_refl _)
      subst hll
      exact ⟨_, m, l, hcs, hl, .inr ⟨b, off, rfl, hb, hla⟩⟩

theorem spot_of {a : Addr} {v : Value} (h : W.cell? (a.add 0) = some v) : a.spot = none ∧ a.block < W.heap.size := by
  obtain ⟨b, off, spot⟩ := a
  have h1 : spot = none := by simpa [Addr.add] using World.cell?_spot h
  subst h1
  rw [addr_add] at h
  exact ⟨rfl, World.block_lt_of_cell? W _ h⟩

set_option maxRecDepth 100000 in
theorem open_field (a : Addr) (n : Nat) (cs : List Value) (D : DataW H × List MemPlace) (hc : W.cells? 0 a 3 = some cs) (h : DataW.trod enc Try.prog W 0 (fun _ => true) true n 49 cs = some D) :
    a.spot = none ∧ a.block < W.heap.size ∧ ∃ x : Fld, FldAt W a.block a.off x := by
  have hs_int : Try.prog.cellsOf 3 = 1 := by kernel_rfl
  have hs_string : Try.prog.cellsOf 9 = 1 := by kernel_rfl
  have hs_kind : Try.prog.cellsOf 47 = 1 := by kernel_rfl
  obtain ⟨_, hlen, hat⟩ := World.cells?_some hc
  obtain ⟨y0, y1, y2, n', _, _, t0, t1, t2⟩ := Go.Deep.trod_struct3 Try.underlying49 h
  match cs, hlen with
  | [u0, u1, u2], _ =>
    have g0 := hat 0 (by omega)
    have g1 := hat 1 (by omega)
    have g2 := hat 2 (by omega)
    simp only [hs_int, hs_string, hs_kind, List.drop, List.take] at t0 t1 t2
    obtain ⟨K0, eK0, _, _⟩ := DataW.trod_string Try.underlying9 t0
    obtain ⟨K1, eK1, _, _⟩ := DataW.trod_int Try.underlying47 t1
    obtain ⟨K2, eK2, _, _⟩ := DataW.trod_int Try.underlying3 t2
    simp at eK0 eK1 eK2
    subst eK0; subst eK1; subst eK2
    obtain ⟨h1, h2⟩ := spot_of g0
    obtain ⟨b, off, spot⟩ := a
    simp only at h1 h2
    subst h1
    rw [addr_add] at g0 g1 g2
    exact ⟨rfl, h2, ⟨K0, K1, K2⟩, g0, g1, g2⟩

set_option maxRecDepth 100000 in
theorem open_fields {fuel : Nat} {cs : List Value} {x : DataW H × List MemPlace} (h : DataW.trod enc Try.prog W 0 (fun _ => true) true fuel 50 cs = some x) :
    ∃ (p : Option Addr) (c : Nat) (l : List Fld), cs = [.slice p l.length c] ∧ l.length ≤ c ∧ FP W W.heap.size p l :=
  open_row Try.underlying50 (by kernel_rfl) FldAt (fun a n cs D hc h => open_field a n cs D hc h) h

set_option maxRecDepth 100000 in
theorem open_comp (a : Addr) (n : Nat) (cs : List Value) (D : DataW H × List MemPlace) (hc : W.cells? 0 a 3 = some cs) (h : DataW.trod enc Try.prog W 0 (fun _ => true) true n 52 cs = some D) :
    a.spot = none ∧ a.block < W.heap.size ∧ ∃ x : Cmp, CmpAt W.heap.size W a.block a.off x := by
  have hs_int : Try.prog.cellsOf 3 = 1 := by kernel_rfl
  have hs_string : Try.prog.cellsOf 9 = 1 := by kernel_rfl
  have hs_fields : Try.prog.cellsOf 50 = 1 := by kernel_rfl
  obtain ⟨_, hlen, hat⟩ := World.cells?_some hc
  obtain ⟨y0, y1, y2, n', _, _, t0, t1, t2⟩ := Go.Deep.trod_struct3 Try.underlying52 h
  match cs, hlen with
  | [u0, u1, u2], _ =>
    have g0 := hat 0 (by omega)
    have g1 := hat 1 (by omega)
    have g2 := hat 2 (by omega)
    simp only [hs_int, hs_string, hs_fields, List.drop, List.take] at t0 t1 t2
    obtain ⟨K0, eK0, _, _⟩ := DataW.trod_int Try.underlying3 t0
    obtain ⟨K1, eK1, _, _⟩ := DataW.trod_string Try.underlying9 t1
    obtain ⟨p, c, l, eK2, hlc, hfp⟩ := open_fields t2
    simp at eK0 eK1 eK2
    subst eK0; subst eK1; subst eK2
    obtain ⟨h1, h2⟩ := spot_of g0
    obtain ⟨b, off, spot⟩ := a
    simp only at h1 h2
    subst h1
    rw [addr_add] at g0 g1 g2
    exact ⟨rfl, h2, ⟨K0, K1, l⟩, g0, g1, p, c, g2, hlc, hfp⟩

set_option maxRecDepth 100000 in
theorem open_comps {fuel : Nat} {cs : List Value} {x : DataW H × List MemPlace} (h : DataW.trod enc Try.prog W 0 (fun _ => true) true fuel 22 cs = some x) :
    ∃ (p : Option Addr) (c : Nat) (l : List Cmp), cs = [.slice p l.length c] ∧ l.length ≤ c ∧ CP W W.heap.size p l :=
  open_row Try.underlying22 (by kernel_rfl) (CmpAt W.heap.size) (fun a n cs D hc h => open_comp a n cs D hc h) h

set_option maxRecDepth 100000 in
/-- A schema that a law is handed. -/
theorem open_schema {v : Value} {r : Reach} {b : Nat} (hv : Value.okWide Try.prog W r b 24 v) {fuel : Nat} {x : DataW H × List MemPlace} (h : DataW.trod enc Try.prog W 0 (fun _ => true) true fuel 24 v.cells.toList = some x) :
    ∃ (k : Int) (p : Option Addr) (c : Nat) (l : List Cmp), v = .agg #[.int .i64 k, .slice p l.length c] ∧ l.length ≤ c ∧ CP W W.heap.size p l := by
  have hs_int : Try.prog.cellsOf 3 = 1 := by kernel_rfl
  have hs_comps : Try.prog.cellsOf 22 = 1 := by kernel_rfl
  have hs : Try.prog.cellsOf 24 = 2 := by kernel_rfl
  unfold Value.okWide at hv
  rw [Try.underlying24] at hv
  obtain ⟨cs, rfl, hsz, _⟩ := hv
  rw [hs] at hsz
  obtain ⟨⟨u0, u1, rfl⟩⟩ : Nonempty (∃ u0 u1, cs = #[u0, u1]) := by
    obtain ⟨l⟩ := cs
    match l, hsz with
    | [u0, u1], _ => exact ⟨u0, u1, rfl⟩
  obtain ⟨y0, y1, n', _, _, t0, t1⟩ := trod_struct2 Try.underlying24 h
  simp only [Value.cells, hs_int, hs_comps, List.drop, List.take] at t0 t1
  obtain ⟨K0, eK0, _, _⟩ := DataW.trod_int Try.underlying3 t0
  obtain ⟨p, c, l, eK1, hlc, hcp⟩ := open_comps t1
  simp at eK0 eK1
  subst eK0; subst eK1
  exact ⟨K0, p, c, l, rfl, hlc, hcp⟩
end
end Go.Proofs.Ytfehiclbcebnoaa

namespace Go.Proofs.Ytfehiclbcebnoaa
open Go.RowKit Go.Proofs.Heap Go.Proofs.Sch

theorem exact_true (v : Int) (pa : Option Addr) (ca : Nat) (cs : List Cmp) (bytes : ByteArray) (w : World) (hA : CP w w.heap.size pa cs) :
    Calls Try.prog 3 #[.agg #[.int .i64 v, .slice pa cs.length ca], .string bytes] w fun e w' => e = .returned (.bool true) ∧ Below w.heap.size w w' :=
  (sc_exact v cs pa ca bytes w hA).mono fun _ _ h => ⟨h.1, h.2.below⟩
end Go.Proofs.Ytfehiclbcebnoaa
