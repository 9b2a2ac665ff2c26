/- What is proved: what the document's Decode of a program of rules answers: the program's own answer. -/
import Derived.Test.YtlhdofkgcbmnnaaGreatDoorMRf12a
import Derived.Test.YtlhdofkgcbmnnaaGreatDoorMRuForm
import Derived.Test.YtlhdofkgcbmnnaaGreatDoorMRf11Dec
namespace Go.Proofs.YtlhdofkgcbmnnaaGreatDoor
open Go.RowKit Go.Proofs.Heap Go.Proofs.Sch Go.Proofs.Wide

set_option maxRecDepth 20000 in
set_option maxHeartbeats 8000000 in
theorem r_number12 (s : ByteArray) (hs : s.size = 4) (w : World) :
    Calls Tryz.prog 36 #[.string s] w fun r w' => r = .returned (.int .i64 (leN s.data.toList : Int)) ∧ Keep (fun _ => False) w w' := by
  have k0 : 0 < s.size := by omega
  have k1 : 1 < s.size := by omega
  have k2 : 2 < s.size := by omega
  have k3 : 3 < s.size := by omega
  have HL : Hid (leN s.data.toList = (s[0]'k0).toNat + 256 * ((s[1]'k1).toNat + 256 * ((s[2]'k2).toNat + 256 * (s[3]'k3).toNat))) := hid (by
    obtain ⟨L, hL⟩ : ∃ L, s.data.toList = L := ⟨_, rfl⟩
    have hl : L.length = 4 := by rw [← hL, Array.length_toList]; exact hs
    have ha : ∀ j (h : j < s.size), L[j]? = some (s[j]'h) := fun j h => by rw [← hL, Array.getElem?_toList]; exact Array.getElem?_eq_getElem h
    have h0 := ha 0 k0; have h1 := ha 1 k1; have h2 := ha 2 k2; have h3 := ha 3 k3
    rw [hL]
    match L, hl with
    | [x0, x1, x2, x3], _ =>
      injection h0 with h0; injection h1 with h1; injection h2 with h2; injection h3 with h3
      rw [← h0, ← h1, ← h2, ← h3]
      simp [leN])
  have l0 : (s[0]'k0).toNat < 256 := (s[0]'k0).toNat_lt
  have l1 : (s[1]'k1).toNat < 256 := (s[1]'k1).toNat_lt
  have l2 : (s[2]'k2).toNat < 256 := (s[2]'k2).toNat_lt
  have l3 : (s[3]'k3).toNat < 256 := (s[3]'k3).toNat_lt
  obtain ⟨x0, e0⟩ : ∃ x, (s[0]'k0).toNat = x := ⟨_, rfl⟩
  obtain ⟨x1, e1⟩ : ∃ x, (s[1]'k1).toNat = x := ⟨_, rfl⟩
  obtain ⟨x2, e2⟩ : ∃ x, (s[2]'k2).toNat = x := ⟨_, rfl⟩
  obtain ⟨x3, e3⟩ : ∃ x, (s[3]'k3).toNat = x := ⟨_, rfl⟩
  rw [e0, e1, e2, e3] at HL
  rw [e0] at l0; rw [e1] at l1; rw [e2] at l2; rw [e3] at l3
  have HI : Hid (((leN s.data.toList : Nat) : Int) = (x0 : Int) + (x1 : Int) * 256 + (x2 : Int) * 65536 + (x3 : Int) * 16777216) := hid (by rw [HL.out]; omega)
  generalize leN s.data.toList = R at *
  go_enter Tryz.func36, Tryz.ntmps36
  go_upto_region 1 with fail
  have HKD := hid (Keep.refl (fun _ => False) w).drew
  refine Plan.wp_region_pl [(false, 0, []), (false, 1, []), (false, 2, []), (false, 3, []), (false, 4, []), (false, 5, []), (false, 6, []), (false, 7, []), (false, 8, []), (false, 9, []), (false, 10, []), (false, 11, []), (false, 12, []), (false, 13, []), (false, 14, []), (false, 15, []), (false, 16, []), (false, 17, []), (false, 18, [])] (by as_aux_lemma => kernel_rfl) (by as_aux_lemma => kernel_rfl) ?_
  generalize w.drew = wd at *
  have hn0 : (0 : Int) ≤ 0 ∧ (0 : Int) < (s.size : Int) := ⟨by omega, by omega⟩
  have hn1 : (0 : Int) ≤ 1 ∧ (1 : Int) < (s.size : Int) := ⟨by omega, by omega⟩
  have hn2 : (0 : Int) ≤ 2 ∧ (2 : Int) < (s.size : Int) := ⟨by omega, by omega⟩
  have hn3 : (0 : Int) ≤ 3 ∧ (3 : Int) < (s.size : Int) := ⟨by omega, by omega⟩
  iterate 19 (refine Plan.pl_st rfl ?_; go_big_quiet_step (fail); refine wpQuiet_nil ?_)
  refine Plan.pl_end ?_
  go_wp2
  go_ret
  refine ⟨?_, HKD.out⟩
  rw [HI.out]; rfl

/-- What the document's Decode answers. -/
def DecR12 (s : ByteArray) (w : World) (r : Ending) (w' : World) : Prop :=
  ∃ p c, r = .returned (.tuple #[PgV (decA s) (decB s) p (decRs s).length c, .bool (goodR s)]) ∧ (decRs s).length ≤ c ∧ UP w' w'.heap.size p (decRs s) ∧ Keep (fun _ => False) w w'

theorem ext_at {s : ByteArray} {L : List UInt8} (hL : s.data.toList = L) {a m : Nat} (h : a + m ≤ s.size) : (s.extract a (a + m)) = bsB ((L.drop a).take m) ∧ (s.extract a (a + m)).size = m := by
  have e : s = bsB L := by rw [← hL, bs_of]
  have h2 : s.extract a (a + m) = bsB ((L.drop a).take m) := by rw [e, bs_ext, Nat.add_sub_cancel_left]
  refine ⟨h2, ?_⟩
  rw [h2, bs_size, List.length_take, List.length_drop]
  have : L.length = s.size := by rw [← hL, Array.length_toList]; rfl
  omega

set_option maxRecDepth 20000 in
set_option maxHeartbeats 64000000 in
theorem r_decode12 (s : ByteArray) (w : World) (hs : s.size ≤ 8192) :
    Calls Tryz.prog 15 #[.string s] w (DecR12 s w) := by
  obtain ⟨i0, hi0, hz0, hz1, hz2⟩ := info_parts' info_formT
  obtain ⟨j0, hj0, hy0, hy1, hy2⟩ := info_parts' info_ruleT
  obtain ⟨w2, hw2, hb1, hb2, hs2, hk2⟩ := box2 w #[.int .i64 0, .int .i64 0, .slice none 0 0] #[.int .i64 0, .int .i64 0, .slice none 0 0] 29 29
  have HK2 := hid hk2
  obtain ⟨A, hA⟩ : ∃ A, w.heap.size = A := ⟨_, rfl⟩
  have HWA := hid hA
  have HS2 : Hid (A + 1 < w2.heap.size) := hid (by have := lt_of_heap hb2; omega)
  rw [hA] at hb1 hb2
  have HAW := hid (fun (wy : World) (hk : Keep (fun _ => False) w2 wy) => hk.get hb1 (fun e => e))
  have HNW := hid (fun (wy : World) (hk : Keep (fun _ => False) w2 wy) => hk.get hb2 (fun e => e))
  have HZERO : Hid (goodR s = false → ∀ wy, Keep (fun _ => False) w2 wy → DecR12 s w (Ending.returned (.tuple #[.agg #[.int .i64 0, .int .i64 0, .slice none 0 0], .bool false])) (((wy.setCell ⟨A, 0, none⟩ (.int .i64 0)).setCell ⟨A, 1, none⟩ (.int .i64 0)).setCell ⟨A, 2, none⟩ (.slice none 0 0))) := hid (fun hg wy hky => by
    obtain ⟨e1, e2, e3⟩ := zeroR hg
    unfold DecR12
    rw [e1, e2, e3, hg]
    exact ⟨none, 0, rfl, Nat.le_refl _, .inl rfl, keep_new (HK2.out.trans hky) ((((Keep.refl (fun k => k = A) wy).setCell (p := ⟨A, 0, none⟩) rfl _).setCell (p := ⟨A, 1, none⟩) rfl _).setCell (p := ⟨A, 2, none⟩) rfl _) (fun k e => by have := HWA.out; omega)⟩)
  obtain ⟨L, hL⟩ : ∃ L, s.data.toList = L := ⟨_, rfl⟩
  have HLL := hid hL
  have HLS : Hid (L.length = s.size) := hid (by rw [← hL, Array.length_toList]; rfl)
  have HLA : Hid (∀ j (h : j < s.size), L[j]? = some (s[j]'h)) := hid (fun j h => by rw [← hL, Array.getElem?_toList]; exact Array.getElem?_eq_getElem h)
  clear hb1 hb2 hs2 hk2 hL
  go_enter Tryz.func15, Tryz.ntmps15
  go_upto_region 2 with fail
  rw [← hw2]
  (try rw [hA])
  clear hw2 hA
  by_cases h10 : s.size < 10
  · have g1 : decide ((s.size : Int) < 10) = true := decide_eq_true (by omega)
    have g2 : decide (s.size < 10) = true := decide_eq_true h10
    have HGF : Hid (goodR s = false) := hid (noR_short h10)
    have HKE : Hid (Keep (fun _ => False) w2 w2) := hid (Keep.refl _ _)
    clear h10
    have hA := HAW.out _ HKE.out
    have hN := HNW.out _ HKE.out
    have HAH := hid hA
    have a0 := cell_of hA (i := 0) (by rfl)
    have a1 := cell_of hA (i := 1) (by rfl)
    have a2 := cell_of hA (i := 2) (by rfl)
    have v0 := free_of hA 0
    have v1 := free_of hA 1
    have v2 := free_of hA 2
    have n0 := cell_of hN (i := 0) (by rfl)
    have n1 := cell_of hN (i := 1) (by rfl)
    have n2 := cell_of hN (i := 2) (by rfl)
    clear hA hN
    go_wp2
    (try simp only [Exit.inBlock, Exit.then])
    refine bodyPost_ret (results_ct rfl _ rfl (load_progT (cells3 (.int .i64 0) (.int .i64 0) (.slice none 0 0) HAH.out))) rfl ?_
    exact HZERO.out HGF.out _ HKE.out
  have g1 : decide ((s.size : Int) < 10) = false := decide_eq_false (by omega)
  have g2 : decide (s.size < 10) = false := decide_eq_false h10
  have k0 : 0 < s.size := by omega
  have k9 : 9 < s.size := by omega
  have HP := hid (partsR_at HLL.out (HLA.out 0 k0) (HLA.out 9 k9))
  have hin0 : (0 : Int) ≤ 0 ∧ (0 : Int) < (s.size : Int) := ⟨by omega, by omega⟩
  have hin9 : (0 : Int) ≤ 9 ∧ (9 : Int) < (s.size : Int) := ⟨by omega, by omega⟩
  obtain ⟨m0, hm0⟩ : ∃ m, (s[0]'k0).toNat = m := ⟨_, rfl⟩
  obtain ⟨n, hn9⟩ : ∃ m, (s[9]'k9).toNat = m := ⟨_, rfl⟩
  have hn256 : n < 256 := by rw [← hn9]; exact (s[9]'k9).toNat_lt
  rw [hm0, hn9] at HP
  by_cases hm : m0 = 77
  rotate_left
  · have g3 : ((m0 : Int) != 77) = true := by rw [bne_iff_ne]; omega
    have g4 : (m0 != 77) = true := by rw [bne_iff_ne]; exact hm
    have HGF : Hid (goodR s = false) := hid (noR_mark (by rw [HP.out]; exact hm))
    have HKE : Hid (Keep (fun _ => False) w2 w2) := hid (Keep.refl _ _)
    clear hm h10
    have hA := HAW.out _ HKE.out
    have hN := HNW.out _ HKE.out
    have HAH := hid hA
    have a0 := cell_of hA (i := 0) (by rfl)
    have a1 := cell_of hA (i := 1) (by rfl)
    have a2 := cell_of hA (i := 2) (by rfl)
    have v0 := free_of hA 0
    have v1 := free_of hA 1
    have v2 := free_of hA 2
    have n0 := cell_of hN (i := 0) (by rfl)
    have n1 := cell_of hN (i := 1) (by rfl)
    have n2 := cell_of hN (i := 2) (by rfl)
    clear hA hN
    go_wp2
    (try simp only [Exit.inBlock, Exit.then])
    refine bodyPost_ret (results_ct rfl _ rfl (load_progT (cells3 (.int .i64 0) (.int .i64 0) (.slice none 0 0) HAH.out))) rfl ?_
    exact HZERO.out HGF.out _ HKE.out
  have g3 : ((m0 : Int) != 77) = false := by rw [bne_eq_false_iff_eq]; omega
  have g4 : (m0 != 77) = false := by rw [bne_eq_false_iff_eq]; exact hm
  have HM := hid hm
  clear hm h10
  obtain ⟨fa, hfa⟩ : ∃ fa, leN ((L.drop 1).take 4) = fa := ⟨_, rfl⟩
  obtain ⟨tb, htb⟩ : ∃ tb, leN ((L.drop 5).take 4) = tb := ⟨_, rfl⟩
  rw [hfa, htb] at HP
  have hE1 := ext_at (a := 1) (m := 4) HLL.out (by omega)
  have hE2 := ext_at (a := 5) (m := 4) HLL.out (by omega)
  have HNA : Hid (∀ wy, Calls Tryz.prog 36 #[.string (s.extract 1 5)] wy fun r w' => r = .returned (.int .i64 (fa : Int)) ∧ Keep (fun _ => False) wy w') := hid (fun wy => by
    have h := r_number12 (s.extract 1 5) hE1.2 wy
    rwa [show (s.extract 1 5).data.toList = (L.drop 1).take 4 from by rw [hE1.1]; rfl, hfa] at h)
  have HNB : Hid (∀ wy, Calls Tryz.prog 36 #[.string (s.extract 5 9)] wy fun r w' => r = .returned (.int .i64 (tb : Int)) ∧ Keep (fun _ => False) wy w') := hid (fun wy => by
    have h := r_number12 (s.extract 5 9) hE2.2 wy
    rwa [show (s.extract 5 9).data.toList = (L.drop 5).take 4 from by rw [hE2.1]; rfl, htb] at h)
  clear hE1 hE2 hfa htb
  go_upto_region 4 with fail
  clear g1 g2 g3 g4
  go_cut [5] from 24 to 30 (fun v wx => ∃ pb, v = .pointer (some ⟨pb, 0, none⟩) ∧ w2.heap.size ≤ pb ∧ wx.heap[pb]? = some (.cells #[.int .i64 (fa : Int), .int .i64 (tb : Int), .slice none 0 0] 29 (0, 0)) ∧ Keep (fun _ => False) w2 wx)
  case first =>
    have HKd := hid (Keep.refl (fun _ => False) w2).drew
    have sl1 : (0 : Int) ≤ 1 ∧ (1 : Int) ≤ 5 ∧ (5 : Int) ≤ (s.size : Int) := ⟨by omega, by omega, by omega⟩
    have sl2 : (0 : Int) ≤ 5 ∧ (5 : Int) ≤ 9 ∧ (9 : Int) ≤ (s.size : Int) := ⟨by omega, by omega, by omega⟩
    refine Plan.wp_region_tr (.st 0 (.st 1 (.st 3 (.st 4 (.br 2 [3, 4] (.br 5 [] (.st 6 (.ac 7 [6] (.ac 8 [] .done))) 7 [3, 4] (.ac 5 [] (.st 6 (.ac 8 [] .done)))) 7 [0, 1, 3, 4] (.ac 2 [3, 4] (.ac 5 [] (.st 6 (.ac 8 [] .done))))))))) (by as_aux_lemma => kernel_rfl) (by as_aux_lemma => kernel_rfl) ?_
    generalize w2.drew = wd at *
    iterate 4 (refine Plan.tr_st rfl ?_; go_big_quiet_step (fail); refine wpQuiet_nil ?_)
    refine Plan.tr_br rfl rfl ?_ ?_
    · go_wp2_with fail
      refine (HNA.out wd).mono ?_
      rintro r wa ⟨rfl, hk⟩
      have HKa := hid (HKd.out.trans hk)
      clear hk
      go_wp2
      refine Plan.trQ_mk ?_ ?_
      · iterate 2 (refine Plan.chk_st rfl ?_ ?_; focus (go_big_quiet_step (fail); exact wpQuiet_nil rfl))
        exact Plan.chk_end
      refine Plan.tr_br rfl rfl ?_ ?_
      · go_wp2_with fail
        refine (HNB.out wa).mono ?_
        rintro r wb ⟨rfl, hk⟩
        have HKb := hid (HKa.out.trans hk)
        clear hk
        go_wp2
        refine Plan.trQ_mk Plan.chk_end ?_
        iterate 1 (refine Plan.tr_st rfl ?_; go_big_quiet_step (fail); refine wpQuiet_nil ?_)
        refine Plan.tr_ac rfl ?_
        obtain ⟨wc0, hwz, hbz, hsz, hkz⟩ := box1 wb #[.int .i64 0, .int .i64 0, .slice none 0 0] 29
        have HKc := hid (HKb.out.trans hkz)
        have HBc := hid hbz
        have HSz : Hid (w2.heap.size ≤ wb.heap.size) := hid (HKb.out.size)
        clear hbz hsz hkz
        go_wp2
        rw [← hwz]
        clear hwz
        obtain ⟨pb, hpb⟩ : ∃ pb, wb.heap.size = pb := ⟨_, rfl⟩
        rw [hpb] at HBc HSz ⊢
        clear hpb
        refine Plan.trQ_mk ?_ ?_
        · iterate 1 (refine Plan.chk_st rfl ?_ ?_; focus (go_big_quiet_step (fail); exact wpQuiet_nil rfl))
          exact Plan.chk_end
        have z0 := cell_of HBc.out (i := 0) (by rfl)
        have z1 := cell_of HBc.out (i := 1) (by rfl)
        have z2 := cell_of HBc.out (i := 2) (by rfl)
        have f0 := free_of HBc.out 0
        have f1 := free_of HBc.out 1
        have f2 := free_of HBc.out 2
        have HB8 : Hid ((((wc0.setCell ⟨pb, 0, none⟩ (.int .i64 (fa : Int))).setCell ⟨pb, 1, none⟩ (.int .i64 (tb : Int))).setCell ⟨pb, 2, none⟩ (.slice none 0 0)).heap[pb]? = some (.cells #[.int .i64 (fa : Int), .int .i64 (tb : Int), .slice none 0 0] 29 (0, 0))) := hid (hsc_same (hsc_same (hsc_same HBc.out 0 _) 1 _) 2 _)
        have HK8 : Hid (Keep (fun _ => False) w2 (((wc0.setCell ⟨pb, 0, none⟩ (.int .i64 (fa : Int))).setCell ⟨pb, 1, none⟩ (.int .i64 (tb : Int))).setCell ⟨pb, 2, none⟩ (.slice none 0 0))) := hid (((HKc.out.setCell_new (p := ⟨pb, 0, none⟩) HSz.out _).setCell_new (p := ⟨pb, 1, none⟩) HSz.out _).setCell_new (p := ⟨pb, 2, none⟩) HSz.out _)
        refine Plan.tr_ac rfl ?_
        go_wp2
        refine Plan.trQ_mk Plan.chk_end ?_
        refine Plan.tr_end ?_
        clear z0 z1 z2 f0 f1 f2
        go_wp2
        go_meet
        case rel => exact ⟨pb, rfl, HSz.out, HB8.out, HK8.out⟩
      · obtain ⟨wb, hwz, hbz, hsz, hkz⟩ := box1 wa #[.int .i64 0, .int .i64 0, .slice none 0 0] 29
        have HKb := hid (HKa.out.trans hkz)
        have HBb := hid hbz
        have HSz : Hid (w2.heap.size ≤ wa.heap.size) := hid (HKa.out.size)
        clear hbz hsz hkz
        go_wp2
        rw [← hwz]
        clear hwz
        obtain ⟨pb, hpb⟩ : ∃ pb, wa.heap.size = pb := ⟨_, rfl⟩
        rw [hpb] at HBb HSz ⊢
        clear hpb
        refine Plan.trQ_mk ?_ ?_
        · iterate 2 (refine Plan.chk_st rfl ?_ ?_; focus (go_big_quiet_step (fail); exact wpQuiet_nil rfl))
          exact Plan.chk_end
        refine Plan.tr_ac rfl ?_
        go_wp2_with fail
        refine (HNB.out wb).mono ?_
        rintro r wc0 ⟨rfl, hk⟩
        have HKc := hid (HKb.out.trans hk)
        have HBc := hid (hk.get HBb.out (fun e => e))
        clear hk
        go_wp2
        refine Plan.trQ_mk Plan.chk_end ?_
        iterate 1 (refine Plan.tr_st rfl ?_; go_big_quiet_step (fail); refine wpQuiet_nil ?_)
        have z0 := cell_of HBc.out (i := 0) (by rfl)
        have z1 := cell_of HBc.out (i := 1) (by rfl)
        have z2 := cell_of HBc.out (i := 2) (by rfl)
        have f0 := free_of HBc.out 0
        have f1 := free_of HBc.out 1
        have f2 := free_of HBc.out 2
        have HB8 : Hid ((((wc0.setCell ⟨pb, 0, none⟩ (.int .i64 (fa : Int))).setCell ⟨pb, 1, none⟩ (.int .i64 (tb : Int))).setCell ⟨pb, 2, none⟩ (.slice none 0 0)).heap[pb]? = some (.cells #[.int .i64 (fa : Int), .int .i64 (tb : Int), .slice none 0 0] 29 (0, 0))) := hid (hsc_same (hsc_same (hsc_same HBc.out 0 _) 1 _) 2 _)
        have HK8 : Hid (Keep (fun _ => False) w2 (((wc0.setCell ⟨pb, 0, none⟩ (.int .i64 (fa : Int))).setCell ⟨pb, 1, none⟩ (.int .i64 (tb : Int))).setCell ⟨pb, 2, none⟩ (.slice none 0 0))) := hid (((HKc.out.setCell_new (p := ⟨pb, 0, none⟩) HSz.out _).setCell_new (p := ⟨pb, 1, none⟩) HSz.out _).setCell_new (p := ⟨pb, 2, none⟩) HSz.out _)
        refine Plan.tr_ac rfl ?_
        go_wp2
        refine Plan.trQ_mk Plan.chk_end ?_
        refine Plan.tr_end ?_
        clear z0 z1 z2 f0 f1 f2
        go_wp2
        go_meet
        case rel => exact ⟨pb, rfl, HSz.out, HB8.out, HK8.out⟩
    · obtain ⟨wa, hwz, hbz, hsz, hkz⟩ := box1 wd #[.int .i64 0, .int .i64 0, .slice none 0 0] 29
      have HKa := hid (HKd.out.trans hkz)
      have HBa := hid hbz
      have HSz : Hid (w2.heap.size ≤ wd.heap.size) := hid (HKd.out.size)
      clear hbz hsz hkz
      go_wp2
      rw [← hwz]
      clear hwz
      obtain ⟨pb, hpb⟩ : ∃ pb, wd.heap.size = pb := ⟨_, rfl⟩
      rw [hpb] at HBa HSz ⊢
      clear hpb
      refine Plan.trQ_mk ?_ ?_
      · iterate 4 (refine Plan.chk_st rfl ?_ ?_; focus (go_big_quiet_step (fail); exact wpQuiet_nil rfl))
        exact Plan.chk_end
      refine Plan.tr_ac rfl ?_
      go_wp2_with fail
      refine (HNA.out wa).mono ?_
      rintro r wb ⟨rfl, hk⟩
      have HKb := hid (HKa.out.trans hk)
      have HBb := hid (hk.get HBa.out (fun e => e))
      clear hk
      go_wp2
      refine Plan.trQ_mk ?_ ?_
      · iterate 2 (refine Plan.chk_st rfl ?_ ?_; focus (go_big_quiet_step (fail); exact wpQuiet_nil rfl))
        exact Plan.chk_end
      refine Plan.tr_ac rfl ?_
      go_wp2_with fail
      refine (HNB.out wb).mono ?_
      rintro r wc0 ⟨rfl, hk⟩
      have HKc := hid (HKb.out.trans hk)
      have HBc := hid (hk.get HBb.out (fun e => e))
      clear hk
      go_wp2
      refine Plan.trQ_mk Plan.chk_end ?_
      iterate 1 (refine Plan.tr_st rfl ?_; go_big_quiet_step (fail); refine wpQuiet_nil ?_)
      have z0 := cell_of HBc.out (i := 0) (by rfl)
      have z1 := cell_of HBc.out (i := 1) (by rfl)
      have z2 := cell_of HBc.out (i := 2) (by rfl)
      have f0 := free_of HBc.out 0
      have f1 := free_of HBc.out 1
      have f2 := free_of HBc.out 2
      have HB8 : Hid ((((wc0.setCell ⟨pb, 0, none⟩ (.int .i64 (fa : Int))).setCell ⟨pb, 1, none⟩ (.int .i64 (tb : Int))).setCell ⟨pb, 2, none⟩ (.slice none 0 0)).heap[pb]? = some (.cells #[.int .i64 (fa : Int), .int .i64 (tb : Int), .slice none 0 0] 29 (0, 0))) := hid (hsc_same (hsc_same (hsc_same HBc.out 0 _) 1 _) 2 _)
      have HK8 : Hid (Keep (fun _ => False) w2 (((wc0.setCell ⟨pb, 0, none⟩ (.int .i64 (fa : Int))).setCell ⟨pb, 1, none⟩ (.int .i64 (tb : Int))).setCell ⟨pb, 2, none⟩ (.slice none 0 0))) := hid (((HKc.out.setCell_new (p := ⟨pb, 0, none⟩) HSz.out _).setCell_new (p := ⟨pb, 1, none⟩) HSz.out _).setCell_new (p := ⟨pb, 2, none⟩) HSz.out _)
      refine Plan.tr_ac rfl ?_
      go_wp2
      refine Plan.trQ_mk Plan.chk_end ?_
      refine Plan.tr_end ?_
      clear z0 z1 z2 f0 f1 f2
      go_wp2
      go_meet
      case rel => exact ⟨pb, rfl, HSz.out, HB8.out, HK8.out⟩
  case rest =>
  obtain ⟨pb, rfl, hps, hpb, hkc⟩ := hcut
  have HPS := hid hps; have HPB := hid hpb; have HK4 := hid hkc
  clear hps hpb hkc HNA HNB
  generalize wc = w4 at *
  obtain ⟨BM, hBM⟩ : ∃ BM, w4.heap.size = BM := ⟨_, rfl⟩
  have HBM := hid hBM
  have HPM : Hid (pb < BM) := hid (by rw [← hBM]; exact lt_of_heap HPB.out)
  clear hBM
  have HK4' := hid (fun (wy : World) (hk : Keep (fun g => g = pb) w4 wy) => (keep_new HK4.out hk (fun g e => by have := HPS.out; omega) : Keep (fun _ => False) w2 wy))
  have HROWB : Hid ((rdRow rdR n (atS L 10)).2.2 = true → goodR s = false) := hid (fun h => noR_bad (by rw [HP.out]; exact h))
  have HROWF : Hid ((rdRow rdR n (atS L 10)).1.all (·.2) = false → goodR s = false) := hid (fun h => noR_flag (by rw [HP.out]; exact h))
  have hsz := hs
  go_wp2_with fail
  go_loopw [6, 7] (fun at_ i wr => ∃ (k : Nat) (rs : List Rv) (p : Option Addr) (c : Nat) (a : Nat), k ≤ n ∧ i = iV k ∧ at_ = iV a ∧ a ≤ s.size ∧ rs.length = k ∧ rdRow rdR n (atS L 10) = (rs.map (fun r => (r.1, true)) ++ (rdRow rdR (n - k) (atS L a)).1, (rdRow rdR (n - k) (atS L a)).2) ∧
    wr.heap[pb]? = some (.cells #[.int .i64 (fa : Int), .int .i64 (tb : Int), .slice p k c] 29 (0, 0)) ∧ RuT 51 wr BM (.slice p k c) rs ∧ Keep (fun g => g = pb) w4 wr) (fun _ i _ => n + 1 - (intOf i).toNat)
  case atStart => exact ⟨0, [], none, 0, 10, Nat.zero_le _, rfl, rfl, by omega, rfl, by simp, HPB.out, RuT.nil, Keep.refl _ _⟩
  case round =>
    obtain ⟨k, rs, vp, vc, a, hk, rfl, rfl, ha, hrl, hrow, hpb, hru, hkr⟩ := hrel
    have HRL := hid hrl; have HROW := hid hrow; have HPBk := hid hpb; have HRU := hid hru; have HKR := hid hkr
    clear hrl hrow hpb hru hkr
    generalize wr = wo at *
    by_cases hlt : k < n
    · by_cases h3 : s.size < a + 3
      · have g1 : decide ((s.size : Int) < (a : Int) + 3) = true := decide_eq_true (by omega)
        have g2 : decide (s.size < a + 3) = true := decide_eq_true h3
        have HGF : Hid (goodR s = false) := hid (HROWB.out (row_badX rdR hlt HROW.out rfl (rdR_short (by rw [HLS.out]; exact h3))))
        have HKE : Hid (Keep (fun _ => False) w2 wo) := hid (HK4'.out _ HKR.out)
        clear h3
        have hA := HAW.out _ HKE.out
        have hN := HNW.out _ HKE.out
        have HAH := hid hA
        have a0 := cell_of hA (i := 0) (by rfl)
        have a1 := cell_of hA (i := 1) (by rfl)
        have a2 := cell_of hA (i := 2) (by rfl)
        have v0 := free_of hA 0
        have v1 := free_of hA 1
        have v2 := free_of hA 2
        have n0 := cell_of hN (i := 0) (by rfl)
        have n1 := cell_of hN (i := 1) (by rfl)
        have n2 := cell_of hN (i := 2) (by rfl)
        clear hA hN
        go_wp2
        (try simp only [Exit.inBlock, Exit.then])
        refine bodyPost_ret (results_ct rfl _ rfl (load_progT (cells3 (.int .i64 0) (.int .i64 0) (.slice none 0 0) HAH.out))) rfl ?_
        exact HZERO.out HGF.out _ HKE.out
      have g1 : decide ((s.size : Int) < (a : Int) + 3) = false := decide_eq_false (by omega)
      have g2 : decide (s.size < a + 3) = false := decide_eq_false h3
      have q0 : a < s.size := by omega
      have q1 : a + 1 < s.size := by omega
      have q2 : a + 2 < s.size := by omega
      have HRA := hid (rdR_at (HLA.out a q0) (HLA.out (a + 1) q1) (HLA.out (a + 2) q2))
      obtain ⟨x0, e0⟩ : ∃ x, (s[a]'q0).toNat = x := ⟨_, rfl⟩
      obtain ⟨x1, e1⟩ : ∃ x, (s[a + 1]'q1).toNat = x := ⟨_, rfl⟩
      obtain ⟨m, e2⟩ : ∃ x, (s[a + 2]'q2).toNat = x := ⟨_, rfl⟩
      have hm256 : m < 256 := by rw [← e2]; exact (s[a + 2]'q2).toNat_lt
      have hx0 : x0 < 256 := by rw [← e0]; exact (s[a]'q0).toNat_lt
      have hx1 : x1 < 256 := by rw [← e1]; exact (s[a + 1]'q1).toNat_lt
      rw [e0, e1, e2] at HRA
      have i0' : (0 : Int) ≤ (a : Int) ∧ (a : Int) < (s.size : Int) := ⟨by omega, by omega⟩
      have i1' : (0 : Int) ≤ (a : Int) + 1 ∧ (a : Int) + 1 < (s.size : Int) := ⟨by omega, by omega⟩
      have i2' : (0 : Int) ≤ (a : Int) + 2 ∧ (a : Int) + 2 < (s.size : Int) := ⟨by omega, by omega⟩
      have H3 := hid h3
      clear h3
      go_upto_region 11 with fail
      clear g1 g2
      have HKD := hid (Keep.refl (fun _ => False) wo).drew
      refine Plan.wp_region_pl [(false, 0, []), (false, 1, []), (false, 2, []), (false, 3, []), (false, 4, []), (false, 5, []), (false, 6, []), (false, 7, []), (false, 8, []), (false, 9, []), (true, 10, [9, 8, 7, 6, 5, 4, 3, 2, 1, 0]), (true, 11, [])] (by as_aux_lemma => kernel_rfl) (by as_aux_lemma => kernel_rfl) ?_
      generalize wo.drew = wd at *
      iterate 10 (refine Plan.pl_st rfl ?_; go_big_quiet_step (fail); refine wpQuiet_nil ?_)
      obtain ⟨w5, hw5, hb5, hs5, hk5⟩ := box1 wd #[.int .i64 (x0 : Int), .int .i64 (x1 : Int), .slice none 0 0] 51
      have HB5 := hid hb5; have HK5 := hid (HKD.out.trans hk5)
      have HRB : Hid (wo.heap.size ≤ wd.heap.size) := hid HKD.out.size
      clear hb5 hs5 hk5
      refine Plan.pl_ac rfl ?_
      go_wp2
      refine Plan.plQ_mk ?_ ?_
      · iterate 10 (refine Plan.chk_st rfl ?_ ?_; focus (go_big_quiet_step (fail); exact wpQuiet_nil rfl))
        exact Plan.chk_end
      refine Plan.pl_ac rfl ?_
      go_wp2
      refine Plan.plQ_mk Plan.chk_end ?_
      refine Plan.pl_end ?_
      rw [← hw5]
      clear hw5
      obtain ⟨rb, hrb⟩ : ∃ rb, wd.heap.size = rb := ⟨_, rfl⟩
      rw [hrb] at HB5 HRB ⊢
      clear hrb
      have HK16 := hid (fun (wy : World) (hk : Keep (fun g => g = rb) w5 wy) => (HK5.out.trans' hk (fun i hi e => by have := HRB.out; omega) : Keep (fun _ => False) wo wy))
      obtain ⟨B2, hB2⟩ : ∃ B2, w5.heap.size = B2 := ⟨_, rfl⟩
      have HB2 := hid hB2
      have HS5 : Hid (rb < B2) := hid (by rw [← hB2]; exact lt_of_heap HB5.out)
      clear hB2
      have HPB2 : Hid ((rdRow rdPt m (atS L (a + 3))).2.2 = true → goodR s = false) := hid (fun h => HROWB.out (row_badX rdR hlt HROW.out rfl (by rw [HRA.out]; exact h)))
      have HPF2 : Hid ((rdRow rdPt m (atS L (a + 3))).1.all (fun s => decide (decEX s = 0)) = false → goodR s = false) := hid (fun h => HROWF.out (row_flagR hlt HROW.out rfl (by rw [HRA.out]; exact h)))
      have ha3 : a + 3 ≤ s.size := by have := H3.out; omega
      go_upto_region 12 with fail
      go_cut [9] from 54 to 58 (fun v wx => v = iV m ∧ w5 = wx)
      case first =>
        go_wp2
        go_meet
        case rel => exact ⟨rfl, rfl⟩
      case rest =>
      obtain ⟨rfl, rfl⟩ := hcut
      clear e0 e1 e2 i0' i1' i2'
      go_wp2_with fail
      go_loopw [6, 10] (fun at_ i wr => ∃ (j : Nat) (ps : List ByteArray) (fs : List Fv) (fp : Option Addr) (fc : Nat) (d : Nat), j ≤ m ∧ i = iV j ∧ at_ = iV d ∧ d ≤ s.size ∧ ps.length = j ∧ (∀ x ∈ ps, decEX x = 0) ∧ fs.map (·.1) = ps.map decX ∧ rdRow rdPt m (atS L (a + 3)) = (ps ++ (rdRow rdPt (m - j) (atS L d)).1, (rdRow rdPt (m - j) (atS L d)).2) ∧
        wr.heap[rb]? = some (.cells #[.int .i64 (x0 : Int), .int .i64 (x1 : Int), .slice fp j fc] 51 (0, 0)) ∧ FmT 69 wr B2 (.slice fp j fc) fs ∧ Keep (fun g => g = rb) w5 wr) (fun _ i _ => m + 1 - (intOf i).toNat)
      case atStart => exact ⟨0, [], [], none, 0, a + 3, Nat.zero_le _, rfl, by go_num, ha3, rfl, (fun x hx => by simp at hx), rfl, by simp, HB5.out, FmT.nil, Keep.refl _ _⟩
      case round =>
        obtain ⟨j, ps, fs, fp, fc, d, hj, rfl, rfl, hd, hpl, hpe, hfm, hprow, hrb, hft, hkj⟩ := hrel
        have HPL := hid hpl; have HPE := hid hpe; have HFM := hid hfm; have HPROW := hid hprow; have HRBj := hid hrb; have HFT := hid hft; have HKJ := hid hkj
        have HFL : Hid (fs.length = j) := hid (by have := congrArg List.length hfm; simpa [hpl] using this)
        clear hpl hpe hfm hprow hrb hft hkj
        generalize wr = wi at *
        have HKI := hid (HK16.out _ HKJ.out)
        have HKI2 := hid (HK4'.out _ (HKR.out.trans (HKI.out.mono (T := fun g => g = pb) (fun _ _ h => h.elim))))
        by_cases hltj : j < m
        · by_cases h4 : s.size < d + 4
          · have g1 : decide ((s.size : Int) < (d : Int) + 4) = true := decide_eq_true (by omega)
            have g2 : decide (s.size < d + 4) = true := decide_eq_true h4
            have HGF : Hid (goodR s = false) := hid (HPB2.out (row_badX rdPt hltj HPROW.out rfl (rdPt_short (.inl (by rw [HLS.out]; exact h4)))))
            have HKE : Hid (Keep (fun _ => False) w2 wi) := hid (HKI2.out)
            clear h4
            have hA := HAW.out _ HKE.out
            have hN := HNW.out _ HKE.out
            have HAH := hid hA
            have a0 := cell_of hA (i := 0) (by rfl)
            have a1 := cell_of hA (i := 1) (by rfl)
            have a2 := cell_of hA (i := 2) (by rfl)
            have v0 := free_of hA 0
            have v1 := free_of hA 1
            have v2 := free_of hA 2
            have n0 := cell_of hN (i := 0) (by rfl)
            have n1 := cell_of hN (i := 1) (by rfl)
            have n2 := cell_of hN (i := 2) (by rfl)
            clear hA hN
            go_wp2
            (try simp only [Exit.inBlock, Exit.then])
            refine bodyPost_ret (results_ct rfl _ rfl (load_progT (cells3 (.int .i64 0) (.int .i64 0) (.slice none 0 0) HAH.out))) rfl ?_
            exact HZERO.out HGF.out _ HKE.out
          have g1 : decide ((s.size : Int) < (d : Int) + 4) = false := decide_eq_false (by omega)
          have g2 : decide (s.size < d + 4) = false := decide_eq_false h4
          obtain ⟨z, hz⟩ : ∃ z, leN ((L.drop d).take 4) = z := ⟨_, rfl⟩
          have hE := ext_at (a := d) (m := 4) HLL.out (by omega)
          have HNM : Hid (∀ wy, Calls Tryz.prog 36 #[.string (s.extract d (d + 4))] wy fun r w' => r = .returned (.int .i64 (z : Int)) ∧ Keep (fun _ => False) wy w') := hid (fun wy => by
            have h := r_number12 (s.extract d (d + 4)) hE.2 wy
            rwa [show (s.extract d (d + 4)).data.toList = (L.drop d).take 4 from by rw [hE.1]; rfl, hz] at h)
          have hz32 : z < 4294967296 := by
            have h1 := leN_lt ((L.drop d).take 4)
            rw [hz] at h1
            refine Nat.lt_of_lt_of_le h1 (Nat.le_trans (pow_le (b := 4) (by rw [List.length_take]; omega)) (by decide))
          have HZ := hid hz
          have sl : (0 : Int) ≤ (d : Int) ∧ (d : Int) ≤ (d : Int) + 4 ∧ (d : Int) + 4 ≤ (s.size : Int) := ⟨by omega, by omega, by omega⟩
          have H4 : Hid (d + 4 ≤ s.size) := hid (by omega)
          clear hz hE h4
          go_wp2_with fail
          refine (HNM.out wi).mono ?_
          rintro r w7 ⟨rfl, hk⟩
          have HK7 := hid hk
          have HKI7 := hid (HKI2.out.trans hk)
          clear hk HNM sl g1 g2
          by_cases h5 : s.size < d + 4 + z
          · have g1 : decide ((s.size : Int) - (d : Int) - 4 < (z : Int)) = true := decide_eq_true (by omega)
            have HGF : Hid (goodR s = false) := hid (HPB2.out (row_badX rdPt hltj HPROW.out rfl (rdPt_short (.inr ⟨z, HZ.out, .inr (by rw [HLS.out]; exact h5)⟩))))
            have HKE : Hid (Keep (fun _ => False) w2 w7) := hid (HKI7.out)
            clear h5
            have hA := HAW.out _ HKE.out
            have hN := HNW.out _ HKE.out
            have HAH := hid hA
            have a0 := cell_of hA (i := 0) (by rfl)
            have a1 := cell_of hA (i := 1) (by rfl)
            have a2 := cell_of hA (i := 2) (by rfl)
            have v0 := free_of hA 0
            have v1 := free_of hA 1
            have v2 := free_of hA 2
            have n0 := cell_of hN (i := 0) (by rfl)
            have n1 := cell_of hN (i := 1) (by rfl)
            have n2 := cell_of hN (i := 2) (by rfl)
            clear hA hN
            go_wp2
            (try simp only [Exit.inBlock, Exit.then])
            refine bodyPost_ret (results_ct rfl _ rfl (load_progT (cells3 (.int .i64 0) (.int .i64 0) (.slice none 0 0) HAH.out))) rfl ?_
            exact HZERO.out HGF.out _ HKE.out
          have g1 : decide ((s.size : Int) - (d : Int) - 4 < (z : Int)) = false := decide_eq_false (by omega)
          have hE := ext_at (a := d + 4) (m := z) HLL.out (by omega)
          obtain ⟨t, ht⟩ : ∃ t, s.extract (d + 4) (d + 4 + z) = t := ⟨_, rfl⟩
          have HT : Hid (t = bsB ((L.drop (d + 4)).take z) ∧ t.size = z) := hid (by rw [← ht]; exact hE)
          have HDE := hid (r_decode11 t w7 (by have h := HT.out.2; omega))
          unfold DecR11 at HDE
          have sl : (0 : Int) ≤ (d : Int) + 4 ∧ (d : Int) + 4 ≤ (d : Int) + 4 + (z : Int) ∧ (d : Int) + 4 + (z : Int) ≤ (s.size : Int) := ⟨by omega, by omega, by omega⟩
          have H5 : Hid (d + 4 + z ≤ s.size) := hid (by omega)
          clear hE h5
          go_wp2_with fail
          (try rw [ht])
          refine HDE.out.mono ?_
          rintro r w8 ⟨dp, dc, rfl, _, hown, hk⟩
          have HOWN := hid hown
          have HK8 := hid (HK7.out.trans hk)
          have HKI8 := hid (HKI7.out.trans hk)
          have HW78 := hid (HKI.out.trans HK8.out)
          have HWD : Hid (w7.heap.size ≤ w7.heap.size) := hid (Nat.le_refl _)
          have HW7 : Hid (wi.heap.size ≤ w7.heap.size) := hid HK7.out.size
          clear hk HDE hown ht g1 sl
          cases hgx : goodX t
          · have HGX := hid hgx
            clear hgx
            have HGF : Hid (goodR s = false) := hid (by
                by_cases h6 : 4096 < z
                · exact HPB2.out (row_badX rdPt hltj HPROW.out rfl (rdPt_short (.inr ⟨z, HZ.out, .inl h6⟩)))
                · refine HPF2.out (row_flagP hltj HPROW.out rfl ?_)
                  rw [rdPt_at (by rw [HLS.out]; exact H4.out) HZ.out (by omega) (by rw [HLS.out]; exact H5.out)]
                  show goodX (bsB _) = false
                  rw [← HT.out.1]; exact HGX.out)
            have HKE : Hid (Keep (fun _ => False) w2 w8) := hid (HKI8.out)
            have hA := HAW.out _ HKE.out
            have hN := HNW.out _ HKE.out
            have HAH := hid hA
            have a0 := cell_of hA (i := 0) (by rfl)
            have a1 := cell_of hA (i := 1) (by rfl)
            have a2 := cell_of hA (i := 2) (by rfl)
            have v0 := free_of hA 0
            have v1 := free_of hA 1
            have v2 := free_of hA 2
            have n0 := cell_of hN (i := 0) (by rfl)
            have n1 := cell_of hN (i := 1) (by rfl)
            have n2 := cell_of hN (i := 2) (by rfl)
            clear hA hN
            go_wp2
            (try simp only [Exit.inBlock, Exit.then])
            refine bodyPost_ret (results_ct rfl _ rfl (load_progT (cells3 (.int .i64 0) (.int .i64 0) (.slice none 0 0) HAH.out))) rfl ?_
            exact HZERO.out HGF.out _ HKE.out
          have HZS : Hid (z ≤ 4096) := hid (by have h1 := goodX_small hgx; have h2 := HT.out.2; omega)
          have HDX : Hid (decEX t = 0) := hid (decEX_good.2 hgx)
          have HNEXT := hid (row_step rdPt hltj HPROW.out rfl (by
            rw [rdPt_at (by rw [HLS.out]; exact H4.out) HZ.out HZS.out (by rw [HLS.out]; exact H5.out), ← HT.out.1]))
          clear hgx
          obtain ⟨cd, hcd⟩ : ∃ cd, decX t = cd := ⟨_, rfl⟩
          have HCD := hid hcd
          rw [hcd] at HOWN ⊢
          clear hcd
          have HRJ8 := hid (HK8.out.get HRBj.out (fun h => h))
          have r2 : w8.cell? ⟨rb, 2, none⟩ = some (.slice fp j fc) := cell_of HRJ8.out (by rfl)
          have HFC : Hid (cd.length ≤ dc) := hid (owns_cap HOWN.out)
          have HSI : Hid (SafeI (w8.alloc (.cells #[.slice dp cd.length dc] 69)) B2 (.slice fp j fc) (fun wy => IP wy wy.heap.size dp cd)) := hid ((SafeI.made (w := w7) (ip_ft rfl HOWN.out) (by have := HB2.out; have := HKJ.out.size; have := HW7.out; omega) (fun g hg => by have := (HFT.out.own.lt g hg).2; have := HW7.out; omega)).keep ((Keep.refl (fun _ => False) w8).alloc _) (fun g h1 h2 => h2.elim))
          have HOF := hid ((HFT.out.keep HK8.out (fun g h1 h2 => h2)).keep ((Keep.refl (fun _ => False) w8).alloc (.cells #[.slice dp cd.length dc] 69)) (fun g h1 h2 => h2))
          have HOA : Hid ((w8.alloc (.cells #[.slice dp cd.length dc] 69)).ownsRow B2 69 1 (.slice fp j fc) j (fs.map fV)) := hid (by
            have h := HOF.out.own
            rwa [HFL.out] at h)
          have HKJ8 := hid (HKJ.out.trans (HK8.out.mono (T := fun g => g = rb) (fun _ _ h => h.elim)))
          have HKA := hid (HKJ8.out.alloc (.cells #[.slice dp cd.length dc] 69))
          have HSA := hid (((Keep.refl (fun _ => False) w8).alloc (.cells #[.slice dp cd.length dc] 69)).get HRJ8.out (fun h => h))
          have hd5 : d + 4 + z ≤ s.size := H5.out
          go_wp2_with (at_builtin; go_loud (refine wpList_append_rd rfl (.tmp 102) (.tmp 104) _ rfl B2 _ i0 _ 1 24 Tryz.underlying49 hi0 hz0 hz1 hz2 rfl (by decide) _ j _ (by rfl) HOA.out _ 1 [.slice dp cd.length dc] (by rfl) (rd_block (heap_alloc_new w8 _) (by simp) (by simp [Value.oneCell'])) (by unfold maxLen; omega) (by omega) (by have := HB2.out; have := HKA.out.size; omega) ?_); go_loud (intro v' wn hown5 hgrow5 hat5 hn5; have hS5 : wn.heap[rb]? = some (.cells #[.int .i64 (x0 : Int), .int .i64 (x1 : Int), .slice fp j fc] 51 (0, 0)) := (hgrow5.block rb (lt_of_heap HSA.out) (fun h => by have := (HOA.out.lt rb h.symm).1; have := HS5.out; omega)).trans HSA.out; have HS5' := hid hS5; have HFN := hid (FmT.more (r := (cd, dp, dc)) HOF.out HFC.out HSI.out (by rw [HFL.out]; exact hown5) hgrow5 hat5); obtain ⟨vq, vd, rfl⟩ := owns_val hown5; have HKN := hid (HKA.out.grown hgrow5 (fun k hk => .inl (by have := (HOA.out.lt k hk).1; have := HB2.out; omega))); clear r2; have r2 : wn.cell? ⟨rb, 2, none⟩ = some (.slice fp j fc) := cell_of hS5 (by rfl); have f2 : wn.frozen? ⟨rb, 2, none⟩ = false := free_of hS5 2; clear hown5 hgrow5 hat5 hn5 hS5))
          have HSX : Hid ((wn.setCell ⟨rb, 2, none⟩ (.slice vq (j + 1) vd)).heap[rb]? = some (.cells #[.int .i64 (x0 : Int), .int .i64 (x1 : Int), .slice vq (j + 1) vd] 51 (0, 0))) := hid (by simpa using hsc_same HS5'.out 2 (.slice vq (j + 1) vd))
          have HFX := hid (HFN.out.keep ((Keep.refl (fun g => g = rb) wn).setCell (p := ⟨rb, 2, none⟩) rfl (.slice vq (j + 1) vd)) (fun g h1 h2 => by have := HS5.out; omega))
          have HKX := hid (HKN.out.setCell (p := ⟨rb, 2, none⟩) rfl (.slice vq (j + 1) vd))
          go_wp2
          go_roundw
          case rel => exact ⟨j + 1, ps ++ [t], fs ++ [(cd, dp, dc)], vq, vd, d + 4 + z, by omega, by go_num, by go_num, H5.out, by rw [List.length_append, HPL.out]; rfl, (fun x hx => by
            rcases List.mem_append.1 hx with hx | hx
            · exact HPE.out x hx
            · rw [List.mem_singleton.1 hx]; exact HDX.out), by rw [List.map_append, List.map_append, HFM.out, ← HCD.out]; rfl, HNEXT.out, HSX.out, HFX.out, HKX.out⟩
          case measure => simp [intOf]; omega
        · obtain rfl : j = m := by omega
          have g0 : decide ((j : Int) < (j : Int)) = false := decide_eq_false (by omega)
          have HPD : Hid (rdRow rdPt j (atS L (a + 3)) = (ps, atS L d)) := hid (by
            have h := HPROW.out
            rw [Nat.sub_self] at h
            rw [h]; simp [rdRow])
          obtain ⟨es, hes⟩ : ∃ es, ps.map decX = es := ⟨_, rfl⟩
          have HALL : Hid (ps.all (fun s => decide (decEX s = 0)) = true) := hid (List.all_eq_true.2 (fun x hx => decide_eq_true (HPE.out x hx)))
          have HEL : Hid (es.length = j) := hid (by rw [← hes, List.length_map, HPL.out])
          have HFM2 : Hid (fs.map (·.1) = es) := hid (by rw [HFM.out, hes])
          have HNEXT := hid (row_step rdR hlt HROW.out rfl (x := (⟨(x0 : Int), (x1 : Int), es⟩, true)) (st2 := atS L d) (by
            rw [HRA.out, HPD.out]
            simp only [hes, HALL.out]))
          clear hes
          have hel : es.length = j := HEL.out
          have HPBI := hid (HKI.out.get HPBk.out (fun h => h))
          have q2 : wi.cell? ⟨pb, 2, none⟩ = some (.slice vp k vc) := cell_of HPBI.out (by rfl)
          have r0 : wi.cell? ⟨rb, 0, none⟩ = some (.int .i64 (x0 : Int)) := cell_of HRBj.out (by rfl)
          have r1 : wi.cell? ⟨rb, 1, none⟩ = some (.int .i64 (x1 : Int)) := cell_of HRBj.out (by rfl)
          have r2 : wi.cell? ⟨rb, 2, none⟩ = some (.slice fp j fc) := cell_of HRBj.out (by rfl)
          clear hel
          have HFC : Hid (es.length ≤ fc) := hid (by rw [HEL.out]; exact owns_cap (by have h := HFT.out.own; rw [HFL.out] at h; exact h))
          have HSI : Hid (SafeI (wi.alloc (.cells #[.int .i64 (x0 : Int), .int .i64 (x1 : Int), .slice fp j fc] 51)) BM (.slice vp k vc) (fun wy => EP wy wy.heap.size fp es)) := hid ((SafeI.made (w := wo) (((HFT.out.ft HFL.out.symm).mono (lo' := wo.heap.size) (by have := HB2.out; have := HK5.out.size; omega) (Nat.le_refl _)) |> fun h => by rwa [HFM2.out] at h) (by have := HBM.out; have := HKR.out.size; omega) (fun g hg => (HRU.out.own.lt g hg).2)).keep ((Keep.refl (fun _ => False) wi).alloc _) (fun g h1 h2 => h2.elim))
          have HOF := hid ((HRU.out.keep HKI.out (fun g h1 h2 => h2)).keep ((Keep.refl (fun _ => False) wi).alloc (.cells #[.int .i64 (x0 : Int), .int .i64 (x1 : Int), .slice fp j fc] 51)) (fun g h1 h2 => h2))
          have HOA : Hid ((wi.alloc (.cells #[.int .i64 (x0 : Int), .int .i64 (x1 : Int), .slice fp j fc] 51)).ownsRow BM 51 3 (.slice vp k vc) k (rs.flatMap rlcl)) := hid (by
            have h := HOF.out.own
            rwa [HRL.out] at h)
          have HKIW := hid (HKR.out.trans (HKI.out.mono (T := fun g => g = pb) (fun _ _ h => h.elim)))
          have HKA := hid (HKIW.out.alloc (.cells #[.int .i64 (x0 : Int), .int .i64 (x1 : Int), .slice fp j fc] 51))
          have HSA := hid (((Keep.refl (fun _ => False) wi).alloc (.cells #[.int .i64 (x0 : Int), .int .i64 (x1 : Int), .slice fp j fc] 51)).get HPBI.out (fun h => h))
          have HRLC : Hid (rlcl (⟨(x0 : Int), (x1 : Int), es⟩, fp, fc) = [.int .i64 (x0 : Int), .int .i64 (x1 : Int), .slice fp j fc]) := hid (by unfold rlcl; rw [HEL.out])
          go_wp2_with (at_builtin; go_loud (refine wpList_append_rd rfl (.tmp 112) (.tmp 114) _ rfl BM _ j0 _ 3 40 Tryz.underlying27 hj0 hy0 hy1 hy2 rfl (by decide) _ k _ (by rfl) HOA.out _ 1 [.int .i64 (x0 : Int), .int .i64 (x1 : Int), .slice fp j fc] (by rfl) (rd_block (heap_alloc_new wi _) (by simp) (by simp [Value.oneCell'])) (by unfold maxLen; omega) (by omega) (by have := HBM.out; have := HKA.out.size; omega) ?_); go_loud (intro v' wn hown5 hgrow5 hat5 hn5; have hS5 : wn.heap[pb]? = some (.cells #[.int .i64 (fa : Int), .int .i64 (tb : Int), .slice vp k vc] 29 (0, 0)) := (hgrow5.block pb (lt_of_heap HSA.out) (fun h => by have := (HOA.out.lt _ h.symm).1; have := HPM.out; omega)).trans HSA.out; have HS5' := hid hS5; have HFN := hid (RuT.more (r := (⟨(x0 : Int), (x1 : Int), es⟩, fp, fc)) HOF.out HFC.out HSI.out (by rw [HRL.out, HRLC.out]; exact hown5) hgrow5 hat5); obtain ⟨vq, vd, rfl⟩ := owns_val hown5; have HKN := hid (HKA.out.grown hgrow5 (fun k hk => .inl (by have := (HOA.out.lt k hk).1; have := HBM.out; omega))); clear q2; have q2 : wn.cell? ⟨pb, 2, none⟩ = some (.slice vp k vc) := cell_of hS5 (by rfl); have f2 : wn.frozen? ⟨pb, 2, none⟩ = false := free_of hS5 2; clear hown5 hgrow5 hat5 hn5 hS5))
          have HSX : Hid ((wn.setCell ⟨pb, 2, none⟩ (.slice vq (k + 1) vd)).heap[pb]? = some (.cells #[.int .i64 (fa : Int), .int .i64 (tb : Int), .slice vq (k + 1) vd] 29 (0, 0))) := hid (by simpa using hsc_same HS5'.out 2 (.slice vq (k + 1) vd))
          have HFX := hid (HFN.out.keep ((Keep.refl (fun g => g = pb) wn).setCell (p := ⟨pb, 2, none⟩) rfl (.slice vq (k + 1) vd)) (fun g h1 h2 => by have := HPM.out; omega))
          have HKX := hid (HKN.out.setCell (p := ⟨pb, 2, none⟩) rfl (.slice vq (k + 1) vd))
          go_wp2
          go_roundw
          case rel => exact ⟨k + 1, rs ++ [(⟨(x0 : Int), (x1 : Int), es⟩, fp, fc)], vq, vd, d, by omega, by go_num, rfl, hd, by rw [List.length_append, HRL.out]; rfl, by rw [List.map_append]; exact HNEXT.out, HSX.out, HFX.out, HKX.out⟩
          case measure => simp [intOf]; omega
    · obtain rfl : k = n := by omega
      have g0 : decide ((k : Int) < (k : Int)) = false := decide_eq_false (by omega)
      have HRD : Hid (rdRow rdR k (atS L 10) = (rs.map (fun r => (r.1, true)), atS L a)) := hid (by
        have h := HROW.out
        rw [Nat.sub_self] at h
        rw [h]; simp [rdRow])
      have HRR : Hid (rulesR s = rs.map (·.1)) := hid (by
        unfold rulesR
        rw [HP.out, HRD.out, List.map_map]; rfl)
      have HGD : Hid (goodR s = (decide (a = s.size) && decide (progC (fa : Int) (tb : Int) (rs.map (·.1)) = 0))) := hid (by
        unfold goodR
        rw [HRR.out, HP.out, HRD.out]
        have h1 : (rs.map (fun r => (r.1, true))).all (·.2) = true := List.all_eq_true.2 (fun x hx => by obtain ⟨y, _, rfl⟩ := List.mem_map.1 hx; rfl)
        have h2 : decide ((atS L a).1.size = 0) = decide (a = s.size) := by
          unfold atS
          rw [bs_size, List.length_drop, HLS.out]
          apply Bool.eq_iff_iff.2
          rw [decide_eq_true_iff, decide_eq_true_iff]
          omega
        simp only [h1, h2, HM.out]
        simp [atS])
      have HKW := hid (HK4'.out _ HKR.out)
      have HRM : Hid ((rs.map (·.1)).length = k) := hid (by rw [List.length_map, HRL.out])
      have HUP : Hid (UP wo wo.heap.size vp (rs.map (·.1))) := hid (HRU.out.up HRL.out.symm)
      have HFIT : Hid (∀ r ∈ rs.map (·.1), FitR r) := hid (by rw [← HRR.out]; exact rulesR_fit s)
      have HEXL : Hid (∀ r ∈ rs.map (·.1), r.exprs.length ≤ 65536) := hid (by
        rw [← HRR.out]
        exact rulesR_exl s)
      have HCAP : Hid (k ≤ vc) := hid (owns_cap (by have h := HRU.out.own; rw [HRL.out] at h; exact h))
      have HCHK := hid (r_check12 (fa : Int) (tb : Int) (rs.map (·.1)) vp vc wo (by rw [HRM.out]; omega) HEXL.out HFIT.out HUP.out)
      rw [HRM.out] at HCHK
      have q0 := cell_of HPBk.out (i := 0) (by rfl)
      have q1 := cell_of HPBk.out (i := 1) (by rfl)
      have q2 := cell_of HPBk.out (i := 2) (by rfl)
      by_cases h6 : a = s.size
      rotate_left
      · have g1 : ((a : Int) != (s.size : Int)) = true := by rw [bne_iff_ne]; omega
        have g2 : (a != s.size) = true := by rw [bne_iff_ne]; exact h6
        clear q0 q1 q2
        have HGF : Hid (goodR s = false) := hid (by rw [HGD.out, decide_eq_false h6]; rfl)
        have HKE : Hid (Keep (fun _ => False) w2 wo) := hid (HKW.out)
        clear h6
        have hA := HAW.out _ HKE.out
        have hN := HNW.out _ HKE.out
        have HAH := hid hA
        have a0 := cell_of hA (i := 0) (by rfl)
        have a1 := cell_of hA (i := 1) (by rfl)
        have a2 := cell_of hA (i := 2) (by rfl)
        have v0 := free_of hA 0
        have v1 := free_of hA 1
        have v2 := free_of hA 2
        have n0 := cell_of hN (i := 0) (by rfl)
        have n1 := cell_of hN (i := 1) (by rfl)
        have n2 := cell_of hN (i := 2) (by rfl)
        clear hA hN
        go_wp2
        (try simp only [Exit.inBlock, Exit.then])
        refine bodyPost_ret (results_ct rfl _ rfl (load_progT (cells3 (.int .i64 0) (.int .i64 0) (.slice none 0 0) HAH.out))) rfl ?_
        exact HZERO.out HGF.out _ HKE.out
      have g1 : ((a : Int) != (s.size : Int)) = false := by rw [bne_eq_false_iff_eq]; omega
      have g2 : (a != s.size) = false := by rw [bne_eq_false_iff_eq]; exact h6
      have HGD2 : Hid (goodR s = decide (progC (fa : Int) (tb : Int) (rs.map (·.1)) = 0)) := hid (by rw [HGD.out, decide_eq_true h6]; rfl)
      clear h6 HGD
      generalize progC (fa : Int) (tb : Int) (rs.map (·.1)) = E at *
      go_wp2_with fail
      refine HCHK.out.mono ?_
      rintro r wq ⟨rfl, hkq⟩
      have HKQ := hid (HKW.out.trans hkq)
      have HKQ0 := hid hkq
      have HPQ := hid (hkq.get HPBk.out (fun e => e))
      clear hkq q0 q1 q2 g0 g1 g2 HCHK
      by_cases hE0 : E = 0
      rotate_left
      · have g1 : ((E : Int) != 0) = true := by rw [bne_iff_ne]; omega
        have g2 : (E != 0) = true := by rw [bne_iff_ne]; exact hE0
        have HGF : Hid (goodR s = false) := hid (by rw [HGD2.out, decide_eq_false hE0])
        have HKE : Hid (Keep (fun _ => False) w2 wq) := hid (HKQ.out)
        clear hE0
        have hA := HAW.out _ HKE.out
        have hN := HNW.out _ HKE.out
        have HAH := hid hA
        have a0 := cell_of hA (i := 0) (by rfl)
        have a1 := cell_of hA (i := 1) (by rfl)
        have a2 := cell_of hA (i := 2) (by rfl)
        have v0 := free_of hA 0
        have v1 := free_of hA 1
        have v2 := free_of hA 2
        have n0 := cell_of hN (i := 0) (by rfl)
        have n1 := cell_of hN (i := 1) (by rfl)
        have n2 := cell_of hN (i := 2) (by rfl)
        clear hA hN
        go_wp2
        (try simp only [Exit.inBlock, Exit.then])
        refine bodyPost_ret (results_ct rfl _ rfl (load_progT (cells3 (.int .i64 0) (.int .i64 0) (.slice none 0 0) HAH.out))) rfl ?_
        exact HZERO.out HGF.out _ HKE.out
      have HGT : Hid (goodR s = true) := hid (by rw [HGD2.out, decide_eq_true hE0])
      have g1 : ((E : Int) != 0) = false := by rw [hE0]; rfl
      have g2 : (E != 0) = false := by rw [hE0]; rfl
      have q0 := cell_of HPQ.out (i := 0) (by rfl)
      have q1 := cell_of HPQ.out (i := 1) (by rfl)
      have q2 := cell_of HPQ.out (i := 2) (by rfl)
      have HYY : Hid (decA s = (fa : Int) ∧ decB s = (tb : Int) ∧ decRs s = rs.map (·.1)) := hid ⟨by unfold decA; rw [if_pos HGT.out, HP.out], by unfold decB; rw [if_pos HGT.out, HP.out], by unfold decRs; rw [if_pos HGT.out, HRR.out]⟩
      have HAH := hid (HAW.out _ HKQ.out)
      have a0 := cell_of HAH.out (i := 0) (by rfl)
      have a1 := cell_of HAH.out (i := 1) (by rfl)
      have a2 := cell_of HAH.out (i := 2) (by rfl)
      have v0 := free_of HAH.out 0
      have v1 := free_of HAH.out 1
      have v2 := free_of HAH.out 2
      clear hE0
      go_wp2
      (try simp only [Exit.inBlock, Exit.then])
      refine bodyPost_ret (results_ct rfl _ rfl (load_progT (cells3 (.int .i64 (fa : Int)) (.int .i64 (tb : Int)) (.slice vp k vc) HAH.out))) rfl ?_
      have hkf := (((Keep.refl (fun k => k = A) wq).setCell (p := ⟨A, 0, none⟩) rfl (.int .i64 (fa : Int))).setCell (p := ⟨A, 1, none⟩) rfl (.int .i64 (tb : Int))).setCell (p := ⟨A, 2, none⟩) rfl (.slice vp k vc)
      have hru := (HRU.out.keep HKQ0.out (fun g h1 h2 => h2)).keep hkf (fun g h1 h2 => by have := HPM.out; have := HPS.out; have := HS2.out; omega)
      have hup := hru.up HRL.out.symm
      unfold DecR12
      rw [HYY.out.1, HYY.out.2.1, HYY.out.2.2, HGT.out, HRM.out]
      exact ⟨vp, vc, rfl, HCAP.out, hup, keep_new (HK2.out.trans HKQ.out) hkf (fun g e => by have := HWA.out; omega)⟩
end Go.Proofs.YtlhdofkgcbmnnaaGreatDoor
