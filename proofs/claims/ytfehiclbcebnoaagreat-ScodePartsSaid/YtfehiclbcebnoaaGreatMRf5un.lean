/- What is proved: what the reference's Unpack of fields and bytes answers: what the program's does. -/
import Derived.Test.YtfehiclbcebnoaaGreatMRf5pack
import Derived.Test.YtfehiclbcebnoaaGreatMScPts4
import Derived.Test.YtfehiclbcebnoaaGreatMUnpack
import Derived.Deep.Cut
import Derived.Deep.CutRange
import Derived.Deep.CutBlock
import Derived.Test.YtfehiclbcebnoaaGreatMRef05
namespace Go.Proofs.YtfehiclbcebnoaaGreat
open Go.RowKit Go.Proofs.Heap Go.Proofs.Sch Go.Proofs.Wide

theorem unRow_fit (fs : List Fld) (s : ByteArray) : ∀ x ∈ unRow fs s, x.fit := by
  intro x hx
  rw [unRow_el] at hx
  obtain ⟨e, _, rfl⟩ := List.mem_map.1 hx
  exact getV_fit _ _

set_option maxRecDepth 20000 in
set_option maxHeartbeats 8000000 in
theorem r_unpack (fs : List Fld) (p : Option Addr) (cap : Nat) (s : ByteArray) (w : World) (hf : FP w w.heap.size p fs) :
    Calls Tryz.prog 32 #[.slice p fs.length cap, .string s] w fun r w' => ∃ a c, r = .returned (.tuple #[.slice a (unV fs s).length c, iV (unE fs s)]) ∧ w'.ownsRow w.heap.size 54 3 (.slice a (unV fs s).length c) (unV fs s).length ((unV fs s).flatMap wcl) ∧ Keep (fun _ => False) w w' := by
  obtain ⟨i0, hi0, hz0, hz1, hz2⟩ := info_parts' info_wi
  have HF := hid hf
  clear hf
  have HUV : Hid (∀ n, unE fs s = n → n ≠ 0 → unV fs s = []) := hid (fun n h hn => by unfold unV; rw [if_neg (by rw [h]; exact hn)])
  go_enter Tryz.func32, Tryz.ntmps32
  go_wp2_with fail
  refine (r_lay fs p cap _ HF.out).mono ?_
  rintro r w1 ⟨hr, hk1⟩
  have HK1 := hid hk1
  clear hk1
  rcases hr with ⟨hne, rfl⟩ | ⟨heq, xp, xc, xq, xd, rfl, hly⟩
  · have G1 : Hid (unE fs s = layC fs) := hid (by unfold unE; rw [if_neg hne])
    have G2 := hid (HUV.out _ G1.out hne)
    generalize layC fs = e at *
    have g1 : ((e : Int) != 0) = true := by simp only [bne, beq_eq_false_iff_ne.2 (show (e : Int) ≠ 0 by omega)]; rfl
    have g2 : (e != 0) = true := by simp only [bne, beq_eq_false_iff_ne.2 hne]; rfl
    go_wp2
    (try simp only [Exit.inBlock, Exit.then])
    refine bodyPost_ret (results_tt2 rfl _) rfl ?_
    rw [G1.out, G2.out]
    exact ⟨none, 0, rfl, World.ownsRow_nil _ _ _ _, HK1.out⟩
  have HLY := hid hly; have HEQ := hid heq
  have HOK := hid (layC_zero heq).2
  have HS8 := hid (sumN_le fs (layC_zero heq).2)
  have HF8 := hid (layC_zero heq).1
  have HS6 := hid (layC_size heq)
  clear hly heq
  by_cases hsz : s.size = pSize fs
  rotate_left
  · have G1 : Hid (unE fs s = 4) := hid (by unfold unE; rw [if_pos HEQ.out, if_neg hsz])
    have G2 := hid (HUV.out 4 G1.out (by decide))
    have g1 : ((s.size : Int) != (pSize fs : Int)) = true := by rw [bne, beq_eq_false_iff_ne.2 (show (s.size : Int) ≠ (pSize fs : Int) by omega)]; rfl
    have g2 : (s.size != pSize fs) = true := by rw [bne, beq_eq_false_iff_ne.2 hsz]; rfl
    clear hsz
    generalize pSize fs = sz at *
    go_wp2
    (try simp only [Exit.inBlock, Exit.then])
    refine bodyPost_ret (results_tt2 rfl _) rfl ?_
    rw [G1.out, G2.out]
    exact ⟨none, 0, rfl, World.ownsRow_nil _ _ _ _, HK1.out⟩
  have HUE : Hid (unE fs s = if unOk fs s = true then 0 else 4) := hid (unE_ok HEQ.out hsz)
  have HIN := hid (fun (i : Nat) (e : Int × Nat) (he : (eRun fs)[i]? = some e) => eRun_in HOK.out he)
  have HLEN := hid (eRun_len fs)
  have hs256 : s.size ≤ 256 := by have := HS6.out; omega
  have HPS : Hid (s.size = pSize fs) := hid hsz
  rw [← hsz] at HIN ⊢
  obtain ⟨n, hn⟩ : ∃ n, (eRun fs).length = n := ⟨_, rfl⟩
  have HN := hid hn
  have hn64 : n ≤ 64 := by have := HS8.out; have := HF8.out; rw [HLEN.out] at hn; omega
  rw [hn]
  clear hsz hn
  have g1 : ((s.size : Int) != (s.size : Int)) = false := by simp
  have g2 : (s.size != s.size) = false := by simp
  go_wp2_with fail
  clear g1 g2
  go_loopw [10, 11, 12, 13, 14] (fun o i _ _ _ wr => ∃ (k : Nat) (rs : List WI), k ≤ n ∧ i = iV k ∧ rs = (unRow fs s).take k ∧ rs.length = k ∧ (∀ (j : Nat) (e : Int × Nat), j < k → (eRun fs)[j]? = some e → fitsB e.1 (getV e.1 (elB s e.2 (szN e.1))) = true) ∧ wr.ownsRow w1.heap.size 54 3 o rs.length (rs.flatMap wcl) ∧ Keep (fun _ => False) w1 wr) (fun _ i _ _ _ _ => n + 1 - (RowKit.intOf i).toNat)
  case atStart => exact ⟨0, [], Nat.zero_le _, rfl, rfl, rfl, fun j e h => by omega, World.ownsRow_made w1 #[] 0 (Nat.le_refl _) (by unfold maxLen; omega) (by simp), (Keep.refl _ _).alloc _⟩
  case round =>
    obtain ⟨k, rs, hk, rfl, hrs, hrl, hall, hov, hkr⟩ := hrel
    obtain ⟨va, vc, rfl⟩ := owns_val hov
    have HRS := hid hrs; have HRL := hid hrl; have HALL := hid hall; have HOV := hid hov; have HKR := hid hkr
    clear hrs hrl hall hov hkr
    by_cases hlt : k < n
    · obtain ⟨e, he⟩ : ∃ e, (eRun fs)[k]? = some e := ⟨(eRun fs)[k]'(by rw [HN.out]; exact hlt), by rw [List.getElem?_eq_getElem]⟩
      have hin2 := HIN.out k e he
      have HNO := hid (fun h => un_no he h : fitsB e.1 (getV e.1 (elB s e.2 (szN e.1))) = false → unOk fs s = false)
      have HRN : Hid ((unRow fs s).take (k + 1) = rs ++ [getV e.1 (elB s e.2 (szN e.1))]) := hid (by rw [take_next (unRow_at he), ← HRS.out])
      have HYES : Hid (fitsB e.1 (getV e.1 (elB s e.2 (szN e.1))) = true → ∀ (j : Nat) (e' : Int × Nat), j < k + 1 → (eRun fs)[j]? = some e' → fitsB e'.1 (getV e'.1 (elB s e'.2 (szN e'.1))) = true) := hid (fun h j e' hj h1 => by
        by_cases hjk : j < k
        · exact HALL.out j e' hjk h1
        · have : j = k := by omega
          subst this
          rw [he] at h1
          injection h1 with h1
          subst h1
          exact h)
      have hly := HLY.out.keep0 HKR.out
      obtain ⟨g, rfl⟩ := owns_some hly.o6 (by rw [HN.out]; omega)
      have HAT := hid (fun wy (h : Keep (fun _ => False) w1 wy) => ly_kind (HLY.out.keep0 h) he)
      have hin : (0 : Int) ≤ (k : Int) ∧ (k : Int) < (n : Int) := ⟨by omega, by omega⟩
      clear he hly
      obtain ⟨kd, ea⟩ := e
      simp only at hin2 HAT HNO HRN HYES
      have hkd := (HAT.out _ HKR.out).1
      have HKD := hid hin2.1
      have HZ1 := hid hin2.2.1
      have hel := hin2.2.2
      have HZ8 := hid (sz_le kd)
      have HSC := hid (sz_cast kd)
      clear hin2
      go_wp2_with fail
      refine (r_bytes kd _).mono ?_
      rintro r w2 ⟨rfl, hk2⟩
      have HK2 := hid (HKR.out.trans hk2)
      have HO2 := hid (owns_keep HOV.out (fun j hj => hk2.block j (HOV.out.lt j hj).2 id))
      rw [HSC.out]
      clear hk2 hkd
      go_upto_region 11 with fail
      generalize hzz : szN kd = zz at *
      have HZZ := hid hzz
      have hk2 := (HAT.out _ HK2.out.drew).1
      have ha2 := (HAT.out _ HK2.out.drew).2
      have g3 : (0 : Int) ≤ (ea : Int) ∧ (ea : Int) ≤ (ea : Int) + (zz : Int) ∧ (ea : Int) + (zz : Int) ≤ (s.size : Int) := ⟨by omega, by omega, by omega⟩
      obtain ⟨gx, F, HGET, HF0, HF1⟩ : ∃ (gx : WI) (F : Bool), Hid (∀ wz, Calls Tryz.prog 62 #[.int .i64 kd, .string (s.extract ea (ea + zz))] wz fun r w' => r = .returned (.tuple #[WV gx, .bool F]) ∧ Keep (fun _ => False) wz w') ∧ Hid (fitsB kd (getV kd (elB s ea zz)) = F) ∧ Hid (F = true → gx = getV kd (elB s ea zz)) := by
        refine ⟨_, _, hid (fun wz => r_get kd HKD.out (elB s ea zz) (by unfold elB; rw [ByteArray.size_extract, HZZ.out]; omega) wz (by rw [HZZ.out]; exact HZ1.out)), hid rfl, hid (fun h => by rw [if_pos h])⟩
      clear hzz
      go_cut [13, 14] from 36 to 70 (fun x y wx => ∃ xb, x = .pointer (some ⟨xb, 0, none⟩) ∧ y = .bool F ∧ wx.heap[xb]? = some (.cells (WC gx) 54 (0, 0)) ∧ Keep (fun _ => False) w2 wx)
      case first =>
        refine Plan.wp_region_tr (.st 0 (.st 1 (.st 2 (.st 3 (.st 4 (.st 5 (.st 6 (.st 7 (.st 8 (.st 9 (.st 10 (.st 11 (.st 12 (.st 13 (.st 14 (.st 15 (.st 16 (.st 17 (.st 18 (.br 19 [] (.st 20 (.st 21 (.st 22 (.ac 23 [20, 21, 22] (.ac 24 [22] (.st 25 .done)))))) 23 [0, 1, 2, 3, 4, 5, 6, 7, 8, 9, 10, 11, 12, 13, 14, 15, 16, 17, 18] (.ac 19 [] (.st 20 (.st 21 (.st 22 (.ac 24 [22] (.st 25 .done)))))))))))))))))))))))))) (by as_aux_lemma => kernel_rfl) (by as_aux_lemma => kernel_rfl) ?_
        iterate 19 (refine Plan.tr_st rfl ?_; go_big_quiet_step (fail); refine wpQuiet_nil ?_)
        refine Plan.tr_br rfl rfl ?_ ?_
        · go_wp2_with fail
          refine (HGET.out _).mono ?_
          rintro r w5 ⟨rfl, hk5⟩
          have HK5 := hid ((Keep.refl (fun _ => False) w2).drew.trans hk5)
          clear hk5 hk2 ha2
          go_wp2
          refine Plan.trQ_mk ?_ ?_
          · repeat (refine Plan.chk_st rfl ?_ ?_; focus (go_big_quiet_step (fail); exact wpQuiet_nil rfl))
            exact Plan.chk_end
          iterate 3 (refine Plan.tr_st rfl ?_; go_big_quiet_step (fail); refine wpQuiet_nil ?_)
          refine Plan.tr_ac rfl ?_
          go_wp2
          refine Plan.trQ_mk ?_ ?_
          · repeat (refine Plan.chk_st rfl ?_ ?_; focus (go_big_quiet_step (fail); exact wpQuiet_nil rfl))
            exact Plan.chk_end
          refine Plan.tr_ac rfl ?_
          go_wp2
          refine Plan.trQ_mk ?_ ?_
          · repeat (refine Plan.chk_st rfl ?_ ?_; focus (go_big_quiet_step (fail); exact wpQuiet_nil rfl))
            exact Plan.chk_end
          iterate 1 (refine Plan.tr_st rfl ?_; go_big_quiet_step (fail); refine wpQuiet_nil ?_)
          refine Plan.tr_end ?_
          go_wp2
          go_meet
          case rel => exact ⟨_, rfl, rfl, heap_alloc_new w5 _, HK5.out.alloc _⟩
        · have hxb : (w2.alloc (.cells Z3 54)).drew.heap[w2.heap.size]? = some (.cells Z3 54 (0, 0)) := heap_alloc_new w2 (.cells Z3 54)
          have HXB := hid hxb
          have HKX0 : Hid (Keep (fun _ => False) w2 (w2.alloc (.cells Z3 54)).drew) := hid ((Keep.refl (fun _ => False) w2).alloc (.cells Z3 54)).drew
          have hk3 := (HAT.out _ (HK2.out.trans HKX0.out)).1
          have ha3 := (HAT.out _ (HK2.out.trans HKX0.out)).2
          clear hxb
          go_wp2
          refine Plan.trQ_mk ?_ ?_
          · repeat (refine Plan.chk_st rfl ?_ ?_; focus (go_big_quiet_step (fail); exact wpQuiet_nil rfl))
            exact Plan.chk_end
          refine Plan.tr_ac rfl ?_
          go_wp2_with fail
          refine (HGET.out _).mono ?_
          rintro r w5 ⟨rfl, hk5⟩
          have HK5 := hid (HKX0.out.trans hk5)
          have HX5 := hid (hk5.get HXB.out id)
          clear hk5 hk2 ha2 hk3 ha3
          go_wp2
          refine Plan.trQ_mk ?_ ?_
          · exact Plan.chk_end
          iterate 3 (refine Plan.tr_st rfl ?_; go_big_quiet_step (fail); refine wpQuiet_nil ?_)
          refine Plan.tr_ac rfl ?_
          have x0 := cell_of HX5.out (i := 0) (by rfl)
          have x1 := cell_of HX5.out (i := 1) (by rfl)
          have x2 := cell_of HX5.out (i := 2) (by rfl)
          have y0 := free_of HX5.out 0
          have y1 := free_of HX5.out 1
          have y2 := free_of HX5.out 2
          go_wp2
          refine Plan.trQ_mk ?_ ?_
          · repeat (refine Plan.chk_st rfl ?_ ?_; focus (go_big_quiet_step (fail); exact wpQuiet_nil rfl))
            exact Plan.chk_end
          iterate 1 (refine Plan.tr_st rfl ?_; go_big_quiet_step (fail); refine wpQuiet_nil ?_)
          refine Plan.tr_end ?_
          go_wp2
          go_meet
          case rel => exact ⟨_, rfl, rfl, (cells3 (.bool gx.neg) (.int .u64 (gx.hi : Int)) (.int .u64 (gx.lo : Int)) HX5.out), ((HK5.out.setCell_new (p := ⟨w2.heap.size, 0, none⟩) (Nat.le_refl _) _).setCell_new (p := ⟨w2.heap.size, 1, none⟩) (Nat.le_refl _) _).setCell_new (p := ⟨w2.heap.size, 2, none⟩) (Nat.le_refl _) _⟩
      case rest =>
      obtain ⟨xb, rfl, rfl, hxb, hkx⟩ := hcut
      have HXB := hid hxb
      have HKC := hid (HK2.out.trans hkx)
      have HOC := hid (owns_keep HO2.out (fun i hi => hkx.block i (HO2.out.lt i hi).2 id))
      clear hxb hkx g3 hk2 ha2
      rw [HF0.out] at HNO HYES
      cases F
      · have G1 : Hid (unE fs s = 4) := hid (by rw [HUE.out, HNO.out rfl]; rfl)
        have G2 := hid (HUV.out 4 G1.out (by decide))
        go_wp2
        (try simp only [Exit.inBlock, Exit.then])
        refine bodyPost_ret (results_tt2 rfl _) rfl ?_
        rw [G1.out, G2.out]
        exact ⟨none, 0, rfl, World.ownsRow_nil _ _ _ _, HK1.out.trans HKC.out⟩
      · have HGX := hid (HF1.out rfl)
        have x0 := cell_of HXB.out (i := 0) (by rfl)
        have x1 := cell_of HXB.out (i := 1) (by rfl)
        have x2 := cell_of HXB.out (i := 2) (by rfl)
        have hsw := HKC.out.size
        go_wp2_with (at_builtin; go_loud (refine wpList_append_rd rfl (.tmp 67) (.tmp 69) _ rfl w1.heap.size _ i0 _ 3 24 Tryz.underlying28 hi0 hz0 hz1 hz2 rfl (by decide) _ rs.length _ (by rfl) (HOC.out.alloc _) _ 1 [.bool gx.neg, .int .u64 (gx.hi : Int), .int .u64 (gx.lo : Int)] (by rfl) (rd_block (heap_alloc_new wc _) (by simp) (by simp [Value.oneCell'])) (by unfold maxLen; have := HRL.out; omega) (by have := HRL.out; omega) (by simp; omega) ?_); go_loud (intro v' w5 hown5 hgrow5 hat5 hn5; obtain ⟨vq, vd, rfl⟩ := owns_val hown5))
        have HO5 := hid hown5; have HG5 := hid hgrow5
        have HK5 : Hid (Keep (fun _ => False) w1 w5) := hid ((HKC.out.alloc _).grown hgrow5 (fun k hk => .inl (HOC.out.lt k hk).1))
        have HR5 : Hid (w5.ownsRow w1.heap.size 54 3 (.slice vq (rs.length + 1) vd) (rs ++ [gx]).length ((rs ++ [gx]).flatMap wcl)) := hid (by
          rw [List.length_append, List.flatMap_append]
          have h := HO5.out
          simpa [wcl] using h)
        have HLL : Hid ((rs ++ [gx]).length = k + 1) := hid (by rw [List.length_append, HRL.out]; rfl)
        have HRN2 : Hid (rs ++ [gx] = (unRow fs s).take (k + 1)) := hid (by rw [HRN.out, HGX.out])
        have HVL : Hid (Value.slice vq (rs.length + 1) vd = Value.slice vq (rs ++ [gx]).length vd) := hid (by rw [List.length_append]; rfl)
        clear hown5 hgrow5 hat5 hn5 x0 x1 x2 hsw
        rw [HVL.out] at HR5
        generalize rs ++ [gx] = rs' at *
        go_wp2
        go_roundw
        case rel => exact ⟨k + 1, rs', by omega, by go_num, HRN2.out, HLL.out, HYES.out (by first | rfl | trivial), by have h := HR5.out; rw [← HVL.out] at h; exact h, HK5.out⟩
        case measure => simp [RowKit.intOf]; omega
    · obtain rfl : k = n := by omega
      have hrow : rs = unRow fs s := by rw [HRS.out, List.take_of_length_le (by rw [unRow_len, ← HLEN.out, HN.out]; exact Nat.le_refl _)]
      have hlen : rs.length = sumN fs := by rw [HRL.out, ← HN.out, HLEN.out]
      have hok : unOk fs s = decide ((⟨(packL fs rs).toArray⟩ : ByteArray) = s) := by
        rw [hrow]
        exact un_yes (fun i e he => HALL.out i e (by have := (List.getElem?_eq_some_iff.1 he).1; rw [HN.out] at this; exact this) he)
      have hfit : ∀ x ∈ rs, x.fit := by rw [hrow]; exact unRow_fit fs s
      have HROW := hid hrow; have HOK2 := hid hok
      have hxp := xp_own rfl HOV.out
      have hfp := FP.mono (FP.low HF.out (Low.keep0 (HK1.out.trans HKR.out))) (HK1.out.trans HKR.out).size
      have HPACK := hid (r_pack fs p cap rs va vc wr HEQ.out hlen hfit hfp hxp)
      have g0 : decide ((k : Int) < (k : Int)) = false := decide_eq_false (by omega)
      have g00 : decide (k < k) = false := decide_eq_false (by omega)
      clear hrow hlen hok hfit hxp hfp
      go_wp2_with fail
      refine HPACK.out.mono ?_
      rintro r w6 ⟨rfl, hk6⟩
      have HK6 := hid (HKR.out.trans hk6)
      have HO6 := hid (owns_keep HOV.out (fun i hi => hk6.block i (HOV.out.lt i hi).2 id))
      clear hk6 g0 g00 HPACK
      generalize (⟨(packL fs rs).toArray⟩ : ByteArray) = bk at *
      by_cases hbk : bk = s
      · have g1 : (!bk.toList == s.toList) = false := by rw [hbk]; simp
        have G1 : Hid (unE fs s = 0) := hid (by rw [HUE.out, HOK2.out, decide_eq_true hbk]; rfl)
        have G2 : Hid (unV fs s = rs) := hid (by unfold unV; rw [if_pos G1.out, HROW.out])
        clear hbk
        go_wp2
        (try simp only [Exit.inBlock, Exit.then])
        refine bodyPost_ret (results_tt2 rfl _) rfl ?_
        rw [G1.out, G2.out]
        exact ⟨va, vc, rfl, owns_mono HO6.out HK1.out.size, HK1.out.trans HK6.out⟩
      · have g1 : (!bk.toList == s.toList) = true := by rw [beq_eq_false_iff_ne.2 (fun h => hbk (toList_inj h))]; rfl
        have G1 : Hid (unE fs s = 4) := hid (by rw [HUE.out, HOK2.out, decide_eq_false hbk]; rfl)
        have G2 := hid (HUV.out 4 G1.out (by decide))
        clear hbk
        go_wp2
        (try simp only [Exit.inBlock, Exit.then])
        refine bodyPost_ret (results_tt2 rfl _) rfl ?_
        rw [G1.out, G2.out]
        exact ⟨none, 0, rfl, World.ownsRow_nil _ _ _ _, HK1.out.trans HK6.out⟩
end Go.Proofs.YtfehiclbcebnoaaGreat

namespace Go.Proofs.YtfehiclbcebnoaaGreat
open Go.RowKit Go.Proofs.Heap Go.Proofs.Sch Go.Proofs.Wide

/-- What the reference's ReadParts answers. -/
def RdP8 (v : Int) (cs : List Cmp) (s : ByteArray) (w : World) (r : Ending) (w' : World) : Prop := ∃ p c l, r = .returned (.tuple #[.slice p l.length c, .bool (goodP v cs s)]) ∧ (goodP v cs s = true → l = decPL v cs s) ∧ PP w' w'.heap.size p l ∧ l.length ≤ 255 ∧ Keep (fun _ => False) w w'
theorem idx_noneF {α : Type} {q : α → Bool} {l : List α} (h : l.find? q = none) : idxI q l = -1 := by
  cases e : l.findIdx? q with
  | none => unfold idxI; rw [e]
  | some i =>
    exfalso
    rw [List.findIdx?_eq_some_iff_getElem] at e
    obtain ⟨hi, h1, _⟩ := e
    rw [List.find?_eq_none] at h
    exact h _ (List.getElem_mem hi) h1

theorem sch_lay {v : Int} {cs : List Cmp} (h : checkC v cs = 0) : ∀ c ∈ cs, layC c.fs = 0 := by
  unfold checkC at h
  split at h
  · omega
  · obtain ⟨_, h2⟩ := comps_ok cs 0 [] h (by omega) (by omega)
    intro c hc
    have h3 := (h2 c hc).2.2
    unfold fieldsC at h3
    split at h3
    · omega
    · exact h3
set_option maxRecDepth 20000 in
set_option maxHeartbeats 32000000 in
theorem r_readParts8 (v : Int) (cs : List Cmp) (p : Option Addr) (cap : Nat) (s : ByteArray) (w : World) (hz : checkC v cs = 0) (hs : s.size ≤ 100000) (hc : CP w w.heap.size p cs) :
    Calls Tryz.prog 10 #[.agg #[.int .i64 v, .slice p cs.length cap], .string s] w (RdP8 v cs s w) := by
  obtain ⟨w1, hw1, hb1, hs1, hk1⟩ := box1 w #[.int .i64 v, .slice p cs.length cap] 24
  have HK1 := hid hk1; have HX1 := hid hb1; have HSZ1 := hid hs1
  have HC0 := hid hc
  have HCP := hid (fun (wy : World) (hk : Keep (fun _ => False) w wy) => CP.mono (CP.low hc (Low.keep0 hk)) hk.size)
  have HOK := hid (sch_ok hz)
  have HFD := hid (fun (id : Int) (wy : World) (hk : Keep (fun _ => False) w wy) => r_find id v cs p cap wy (by have := (sch_ok hz).2.1; omega) (HCP.out wy hk))
  have HZ := hid hz
  have h24 := HOK.out.2.1
  clear hb1 hs1 hk1 hc hz
  go_enter Tryz.func10, Tryz.ntmps10
  go_upto_region 1 with fail
  rw [← hw1]
  clear hw1
  obtain ⟨X, hX⟩ : ∃ X, w.heap.size = X := ⟨_, rfl⟩
  have HWX := hid hX
  rw [hX] at HX1 HSZ1 ⊢
  clear hX
  have HZERO : Hid (goodP v cs s = false → ∀ wy, Keep (fun _ => False) w wy → RdP8 v cs s w (Ending.returned (.tuple #[.slice none 0 0, .bool false])) wy) := hid (fun hg wy hk => by
    unfold RdP8
    rw [hg]
    exact ⟨none, 0, [], rfl, (fun h => by cases h), .inl rfl, by simp, hk⟩)
  by_cases h0 : s.size = 0
  · have HG : Hid (goodP v cs s = false) := hid (goodP_no (fun l st ho _ hb _ => by
      have h1 : rdN 1 (s, false) = (0, (s, true)) := by
        unfold rdN
        rw [if_neg]
        rintro ⟨_, h⟩
        simp only at h
        omega
      unfold ptsOf at ho
      rw [h1] at ho
      simp only [rdPs, Option.some.injEq, Prod.mk.injEq] at ho
      rw [← ho.2] at hb
      cases hb))
    have g1 : ((s.size : Int) == 0) = true := by rw [h0]; rfl
    have g2 : (s.size == 0) = true := by rw [h0]; rfl
    clear h0
    go_wp2
    (try simp only [Exit.inBlock, Exit.then])
    refine bodyPost_ret (results_2z rfl _) rfl ?_
    exact HZERO.out HG.out _ HK1.out
  have g1 : ((s.size : Int) == 0) = false := by rw [beq_eq_false_iff_ne]; omega
  have g2 : (s.size == 0) = false := by rw [beq_eq_false_iff_ne]; exact h0
  have n0 : 0 < s.size := by omega
  have i0' : (0 : Int) < (s.size : Int) := by omega
  obtain ⟨L, hL⟩ : ∃ L, s.data.toList = L := ⟨_, rfl⟩
  have HLE := hid hL
  have HLX : Hid (s = bsB L) := hid (by rw [← hL, bs_of])
  have HLL : Hid (L.length = s.size) := hid (by rw [← hL]; exact Array.length_toList)
  have HAT : Hid (∀ j (h : j < s.size), L[j]? = some (s[j]'h)) := hid (fun j h => by rw [← hL, Array.getElem?_toList]; exact Array.getElem?_eq_getElem h)
  obtain ⟨n, hn⟩ : ∃ b, (s[0]'n0).toNat = b := ⟨_, rfl⟩
  have l0 : n < 256 := by rw [← hn]; exact (s[0]'n0).toNat_lt
  have HPO : Hid (ptsOf cs s = rdPs cs n (atS L 1)) := hid (by
    unfold ptsOf
    rw [show ((s, false) : St) = atS s.data.toList 0 from by unfold atS; rw [List.drop_zero, bs_of], hL, rd_byte (HAT.out 0 n0), hn])
  clear hL h0
  have HN := hid l0
  obtain ⟨i0, hi0, hz0, hz1, hz2⟩ := info_parts' info_prtZ
  obtain ⟨B1, hB1⟩ : ∃ B1, w1.heap.size = B1 := ⟨_, rfl⟩
  have HB1 := hid hB1
  have HXB : Hid (X < B1) := hid (by have := HSZ1.out; omega)
  obtain ⟨w2, hw2, hb2, hs2, hk2⟩ := box1 w1 #[] 30
  have HO2 : Hid (w2.ownsRow B1 30 2 (.slice (some ⟨B1, 0, none⟩) 0 0) 0 (([] : List Pv).flatMap pcl)) := hid (by
    rw [hw2, ← hB1]
    exact World.ownsRow_made w1 #[] 0 (Nat.le_refl _) (by unfold maxLen; omega) (by rfl))
  have HK2 := hid (hk2.mono (T := fun g => B1 ≤ g) (fun _ _ h => h.elim))
  clear hb2 hs2 hk2
  go_upto_region 4 with fail
  rw [← hw2]
  (try rw [hB1])
  clear hw2 hB1 g1 g2
  go_wp2_with fail
  go_loopw [6, 7, 8, 9, 10, 11, 12, 13, 14, 15] (fun sl at_ i _ _ _ _ _ _ _ wr => ∃ (k : Nat) (out : List Pv) (q : Option Addr) (c a : Nat), k ≤ n ∧ i = iV k ∧ at_ = iV a ∧ sl = .slice q out.length c ∧ out.length = k ∧ a ≤ L.length ∧ rdPs cs n (atS L 1) = (rdPs cs (n - k) (atS L a)).map (fun p => (out.map (·.1) ++ p.1, p.2)) ∧
    wr.ownsRow B1 30 2 (.slice q out.length c) out.length (out.flatMap pcl) ∧ PVO wr B1 out ∧ (∀ x ∈ out, ∀ j, (Value.slice x.2.1 x.1.vals.length x.2.2).ownBlock = some j → (Value.slice q out.length c).ownBlock ≠ some j) ∧ Rise (out.map (·.1)) ∧ (∀ x ∈ out.map (·.1), partC cs x = 0) ∧ Keep (fun g => B1 ≤ g) w1 wr) (fun _ _ i _ _ _ _ _ _ _ _ => n + 1 - (RowKit.intOf i).toNat)
  case atStart => exact ⟨0, [], _, _, 1, Nat.zero_le _, rfl, rfl, rfl, rfl, by rw [HLL.out]; omega, by simp, HO2.out, (fun x hx => by cases hx), (fun x hx => by cases hx), by simp [Rise], (fun x hx => by cases hx), HK2.out⟩
  case round =>
    obtain ⟨k, out, q, c, a, hk, rfl, rfl, rfl, hol, hal, hrow, hown, hcv, hap, hri, hpa, hkr⟩ := hrel
    have HROW := hid hrow; have HOWN := hid hown; have HKR := hid hkr
    have HOL := hid hol; have HCV := hid hcv; have HAP := hid hap; have HRI := hid hri; have HPA := hid hpa; have HAL := hid hal
    have HKW := hid (keep_new HK1.out hkr (fun k e => by have := HXB.out; have := HWX.out; omega))
    have HXR := hid (hkr.get HX1.out (fun e => by have := HXB.out; omega))
    have hal2 : a ≤ s.size := by rw [← HLL.out]; exact hal
    clear hrow hown hkr hol hcv hap hri hpa hal
    have hn256 := HN.out
    have hs1 : s.size ≤ 100000 := hs
    by_cases hlt : k < n
    · have g1 : decide ((k : Int) < (n : Int)) = true := decide_eq_true (by omega)
      have HNEX : Hid (rdPs cs n (atS L 1) = (if (rdPt cs (atS L a)).1.2 = true then (rdPs cs (n - (k + 1)) (rdPt cs (atS L a)).2).map (fun p => (out.map (·.1) ++ ((rdPt cs (atS L a)).1.1 :: p.1), p.2)) else none)) := hid (by
        rw [HROW.out, show n - k = (n - (k + 1)) + 1 by omega, rdPs]
        split
        · rw [Option.map_map]; rfl
        · rfl)
      have HFAIL : Hid ((rdPt cs (atS L a)).1.2 = false → goodP v cs s = false) := hid (fun h => goodP_no (fun l st ho _ _ _ => by
        rw [HPO.out, HNEX.out, h, if_neg (by simp)] at ho
        cases ho))
      by_cases hge : s.size ≤ a
      · have HG := hid (HFAIL.out (rdPt_none (by
          have h1 : (rdN 1 (atS L a)).1 = 0 := by
            unfold rdN atS
            rw [if_neg]
            rintro ⟨_, h⟩
            rw [bs_size, List.length_drop, HLL.out] at h
            omega
          rw [h1]
          exact find_zero HZ.out)))
        have g3 : decide ((s.size : Int) ≤ (a : Int)) = true := decide_eq_true (by omega)
        have g4 : decide (s.size ≤ a) = true := decide_eq_true hge
        go_wp2
        (try simp only [Exit.inBlock, Exit.then])
        refine bodyPost_ret (results_2z rfl _) rfl ?_
        exact HZERO.out HG.out _ HKW.out
      have g3 : decide ((s.size : Int) ≤ (a : Int)) = false := decide_eq_false (by omega)
      have g4 : decide (s.size ≤ a) = false := decide_eq_false hge
      have hlta : a < s.size := by omega
      obtain ⟨id, hid0⟩ : ∃ b, (s[a]'hlta).toNat = b := ⟨_, rfl⟩
      have lid : id < 256 := by rw [← hid0]; exact (s[a]'hlta).toNat_lt
      have HRID : Hid (rdN 1 (atS L a) = (id, atS L (a + 1))) := hid (by rw [rd_byte (HAT.out a hlta), hid0])
      have HPC : Hid ((rdPt cs (atS L a)).1.1.comp = (id : Int)) := hid (by rw [rdPt_comp, HRID.out])
      have hin : (0 : Int) ≤ (a : Int) ∧ (a : Int) < (s.size : Int) := ⟨by omega, by omega⟩
      clear hge
      go_upto_region 10 with fail
      have HKd := hid HKW.out.drew; have HRd := hid HKR.out.drew
      have HXd : Hid (wr.drew.heap[X]? = _) := HXR
      have HOd := hid (owns_keep (w' := wr.drew) HOWN.out (fun _ _ => rfl))
      have HCVd : Hid (PVO wr.drew B1 out) := hid (fun x hx => owns_keep (w' := wr.drew) (HCV.out x hx) (fun _ _ => rfl))
      have HSZd : Hid (wr.drew.heap.size = wr.heap.size) := hid rfl
      refine Plan.wp_region_pl [(false, 0, []), (false, 1, []), (false, 2, []), (false, 3, []), (false, 4, []), (true, 5, []), (false, 6, [])] (by as_aux_lemma => kernel_rfl) (by as_aux_lemma => kernel_rfl) ?_
      generalize wr.drew = wd at *
      have c0 := cell_of HXd.out (i := 0) (by rfl)
      have c1 := cell_of HXd.out (i := 1) (by rfl)
      iterate 5 (refine Plan.pl_st rfl ?_; go_big_quiet_step (fail); refine wpQuiet_nil ?_)
      refine Plan.pl_ac rfl ?_
      go_wp2_with fail
      refine (HFD.out (id : Int) wd HKd.out).mono ?_
      rintro r we ⟨rfl, hk⟩
      have HKe := hid (HKd.out.trans hk); have HXe := hid (hk.get HXd.out (fun e => e)); have HRe := hid (HRd.out.trans (hk.mono (T := fun g => B1 ≤ g) (fun _ _ h => h.elim)))
      have HOe := hid (owns_keep HOd.out (fun j hj => hk.block j (HOd.out.lt j hj).2 (fun e => e)))
      have HCVe := hid (PVO.keep HCVd.out hk (fun x hx j hj e => e))
      have HSZe := hid hk.size
      clear hk c0 c1
      go_wp2
      refine Plan.plQ_mk Plan.chk_end ?_
      iterate 1 (refine Plan.pl_st rfl ?_; go_big_quiet_step (fail); refine wpQuiet_nil ?_)
      refine Plan.pl_end ?_
      cases hf : cs.find? (fun c => decide (c.id = (id : Int))) with
      | none =>
        have HG := hid (HFAIL.out (rdPt_none (by rw [HRID.out]; exact hf)))
        rw [idx_noneF hf]
        clear hf
        go_upto_region 11 with fail
        have HKe2 := hid HKe.out.drew
        refine Plan.wp_region_reads (by as_aux_lemma => kernel_rfl) (by as_aux_lemma => kernel_rfl) ?_
        repeat (go_big_quiet_step (fail))
        refine wpQuiet_nil ?_
        clear g1 g3 g4
        go_wp2
        (try simp only [Exit.inBlock, Exit.then])
        refine bodyPost_ret (results_2z rfl _) rfl ?_
        exact HZERO.out HG.out _ HKe2.out
      | some cm =>
      have hcm := List.mem_of_find?_eq_some hf
      have hlay := sch_lay HZ.out cm hcm
      have hcid : cm.id = (id : Int) := by have := List.find?_some hf; simpa using this
      obtain ⟨kk, hkk, hck⟩ := idx_of_find hf
      have HRP := hid (rdPt_at (cs := cs) (L := L) (a := a) (n := id) (by rw [HLL.out]; omega) HRID.out hf hlay)
      have HPC0 : Hid (∀ vs, fitC cm.fs vs = 0 → partC cs ⟨(id : Int), vs⟩ = 0) := hid (fun vs h => by unfold partC; simp only [hf]; exact h)
      rw [hkk]
      have hkl : kk < cs.length := (List.getElem?_eq_some_iff.1 hck).1
      have HCKK := hid hck; have HLAY := hid hlay
      have hp256 := pSize_le hlay
      clear hf hcm hcid hkk hck hlay
      obtain ⟨gb, hgb⟩ : ∃ gb : Bool, (gb = true ↔ 0 < k ∧ ∃ y, out[k - 1]? = some y ∧ (id : Int) ≤ y.1.comp) := by
        by_cases h : 0 < k ∧ ∃ y, out[k - 1]? = some y ∧ (id : Int) ≤ y.1.comp
        · exact ⟨true, ⟨fun _ => h, fun _ => rfl⟩⟩
        · exact ⟨false, ⟨fun h2 => (by cases h2), fun h2 => absurd h2 h⟩⟩
      have HGB := hid hgb
      clear hgb
      have gk0 : decide ((kk : Int) < 0) = false := decide_eq_false (by omega)
      have hol := HOL.out
      have HRAW := hid hid0
      go_upto_region 11 with fail
      go_cut [55] from 20 to 107 (fun u wx => u = .bool gb ∧ Keep (fun _ => False) we wx)
      case first =>
        by_cases hk0 : k = 0
        · have hg : gb = false := by
            cases h : gb
            · rfl
            · have := (HGB.out.1 h).1; omega
          have e1 : decide ((0 : Int) < (k : Int)) = false := decide_eq_false (by omega)
          have e2 : decide (0 < k) = false := decide_eq_false (by omega)
          have HG := hid hg
          clear hg hk0 hol
          refine Plan.wp_region_reads (by as_aux_lemma => kernel_rfl) (by as_aux_lemma => kernel_rfl) ?_
          repeat (go_big_quiet_step (fail))
          refine wpQuiet_nil ?_
          go_wp2
          go_meet
          case rel => exact ⟨by rw [HG.out], (Keep.refl _ _).drew⟩
        · obtain ⟨j, hj⟩ : ∃ j, k = j + 1 := ⟨k - 1, by omega⟩
          have hj1 : (k : Int) - 1 = (j : Int) := by omega
          obtain ⟨y, hy⟩ : ∃ y, out[j]? = some y := ⟨out[j]'(by omega), by simp [show j < out.length by omega]⟩
          have e1 : decide ((0 : Int) < (k : Int)) = true := decide_eq_true (by omega)
          have e2 : decide (0 < k) = true := decide_eq_true (by omega)
          have hinj : (0 : Int) ≤ (j : Int) ∧ (j : Int) < (out.length : Int) := ⟨by omega, by omega⟩
          have hoq := owns_keep (w' := we.drew) HOe.out (fun _ _ => rfl)
          obtain ⟨g, rfl⟩ := owns_some hoq (by omega)
          have y0 := owns_flatZ pcl_len hoq hy (r := 0) (by omega) rfl
          rw [Nat.add_zero] at y0
          have HG : Hid (gb = decide ((id : Int) ≤ y.1.comp)) := hid (by
            apply Bool.eq_iff_iff.2
            rw [HGB.out, decide_eq_true_iff]
            have e : k - 1 = j := by omega
            rw [e]
            constructor
            · rintro ⟨_, z, hz, h⟩
              rw [hy] at hz; injection hz with hz; subst hz; exact h
            · exact fun h => ⟨by omega, y, hy, h⟩)
          clear hy hj hk0 hol hoq
          refine Plan.wp_region_reads (by as_aux_lemma => kernel_rfl) (by as_aux_lemma => kernel_rfl) ?_
          repeat (go_big_quiet_step (fail))
          refine wpQuiet_nil ?_
          go_wp2
          go_meet
          case rel => exact ⟨by rw [HG.out], (Keep.refl _ _).drew⟩
      case rest =>
      obtain ⟨rfl, hkc⟩ := hcut
      have HKf := hid (HKe.out.trans hkc); have HXf := hid (hkc.get HXe.out (fun e => e)); have HRf := hid (HRe.out.trans (hkc.mono (T := fun g => B1 ≤ g) (fun _ _ h => h.elim)))
      have HOf := hid (owns_keep HOe.out (fun j hj => hkc.block j (HOe.out.lt j hj).2 (fun e => e)))
      have HCVf := hid (PVO.keep HCVe.out hkc (fun x hx j hj e => e))
      have HSZf := hid (show wd.heap.size ≤ wc.heap.size by have := hkc.size; have := HSZe.out; omega)
      clear hkc hol
      generalize wc = wf at *
      cases gb
      rotate_left
      · have HG : Hid (goodP v cs s = false) := hid (goodP_no (fun l st ho hp _ _ => by
          obtain ⟨h0, y, hy, hxy⟩ := HGB.out.1 rfl
          rw [HPO.out, HNEX.out] at ho
          split at ho
          · obtain ⟨pr, _, he⟩ := Option.map_eq_some_iff.1 ho
            simp only [Prod.mk.injEq] at he
            have hr := ((prtsC_iff HZ.out).1 hp).2
            rw [← he.1] at hr
            refine rise_not (y := y.1) ?_ (by rw [HPC.out]; exact hxy) hr
            rw [List.getLast?_map, List.getLast?_eq_getElem?, HOL.out, hy]
            rfl
          · cases ho))
        clear g1 g3 g4 gk0
        go_wp2
        (try simp only [Exit.inBlock, Exit.then])
        refine bodyPost_ret (results_2z rfl _) rfl ?_
        exact HZERO.out HG.out _ HKf.out
      have HRN : Hid (∀ x : Prt, x.comp = (id : Int) → Rise (out.map (·.1) ++ [x])) := hid (fun x hx => by
        refine rise_snoc HRI.out (fun y hy => ?_)
        rw [List.getLast?_map, List.getLast?_eq_getElem?] at hy
        obtain ⟨z, hz, hzy⟩ := Option.map_eq_some_iff.1 hy
        have hlt := (List.getElem?_eq_some_iff.1 hz).1
        rw [HOL.out] at hz hlt
        by_cases h : (id : Int) ≤ z.1.comp
        · exact absurd (HGB.out.2 ⟨by omega, z, hz, h⟩) (by simp)
        · rw [hx, ← hzy]; omega)
      clear HGB gk0
      obtain ⟨bc, offc, cp, cz, hpe, hbc, f0, f1, f2, hcz, hfp⟩ := CP.at (HCP.out wf HKf.out) HCKK.out
      subst hpe
      have HFPF := hid (fun (wy : World) (hk : Keep (fun _ => False) wf wy) => FP.mono (FP.low hfp (Low.keep0 hk)) hk.size)
      have HF2 := hid (fun (wy : World) (hk : Keep (fun _ => False) wf wy) => ((Low.keep0 hk).cell hbc).trans f2)
      have hink : (0 : Int) ≤ (kk : Int) ∧ (kk : Int) < (cs.length : Int) := ⟨by omega, by omega⟩
      have c1 := cell_of HXf.out (i := 1) (by rfl)
      clear f0 f1 hcz hfp hbc
      go_wp2_with fail
      refine (r_lay cm.fs cp cz wf (HFPF.out wf (Keep.refl _ _))).mono ?_
      rintro r wg ⟨hlr, hk⟩
      rcases hlr with ⟨hne, _⟩ | ⟨_, lp, lc, lq, ld, rfl, _⟩
      · exact absurd HLAY.out hne
      have HKg := hid (HKf.out.trans hk); have HXg := hid (hk.get HXf.out (fun e => e)); have HRg := hid (HRf.out.trans (hk.mono (T := fun g => B1 ≤ g) (fun _ _ h => h.elim)))
      have HOg := hid (owns_keep HOf.out (fun j hj => hk.block j (HOf.out.lt j hj).2 (fun e => e)))
      have HCVg := hid (PVO.keep HCVf.out hk (fun x hx j hj e => e))
      have HFg := hid hk
      have HSZg := hid (show wd.heap.size ≤ wg.heap.size by have := hk.size; have := HSZf.out; omega)
      clear hk f2 c1
      obtain ⟨z, hzz⟩ : ∃ z, pSize cm.fs = z := ⟨_, rfl⟩
      rw [hzz] at HRP hp256 ⊢
      have HZZ := hid hzz
      clear hzz
      by_cases hle : s.size < a + 1 + z
      · have HG : Hid (goodP v cs s = false) := hid (by
          rcases HRP.out with ⟨_, h⟩ | ⟨h, _⟩
          · exact HFAIL.out h
          · rw [HLL.out] at h; omega)
        have e1 : decide ((s.size : Int) < (a : Int) + 1 + (z : Int)) = true := decide_eq_true (by omega)
        go_wp2
        (try simp only [Exit.inBlock, Exit.then])
        refine bodyPost_ret (results_2z rfl _) rfl ?_
        exact HZERO.out HG.out _ HKg.out
      have e1 : decide ((s.size : Int) < (a : Int) + 1 + (z : Int)) = false := decide_eq_false (by omega)
      obtain ⟨raw, hraw⟩ : ∃ raw, s.extract (a + 1) (a + 1 + z) = raw := ⟨_, rfl⟩
      have HRP2 : Hid (rdPt cs (atS L a) = ((⟨(id : Int), unV cm.fs raw⟩, decide (unE cm.fs raw = 0)), atS L (a + 1 + z))) := hid (by
        rcases HRP.out with ⟨h, _⟩ | ⟨_, h⟩
        · rw [HLL.out] at h; omega
        · rw [h]
          have e : bsB ((L.drop (a + 1)).take z) = raw := by rw [← hraw, HLX.out, bs_ext, Nat.add_sub_cancel_left]
          rw [e])
      have hsl : (0 : Int) ≤ (a : Int) + 1 ∧ (a : Int) + 1 ≤ (a : Int) + 1 + (z : Int) ∧ (a : Int) + 1 + (z : Int) ≤ (s.size : Int) := ⟨by omega, by omega, by omega⟩
      clear hle
      go_upto_region 16 with fail
      have HKh := hid HKg.out.drew; have HRh := hid HRg.out.drew; have HFh := hid HFg.out.drew
      have HXh : Hid (wg.drew.heap[X]? = _) := HXg
      have HOh := hid (owns_keep (w' := wg.drew) HOg.out (fun _ _ => rfl))
      have HCVh : Hid (PVO wg.drew B1 out) := hid (fun x hx => owns_keep (w' := wg.drew) (HCVg.out x hx) (fun _ _ => rfl))
      have HSZh : Hid (wd.heap.size ≤ wg.drew.heap.size) := HSZg
      refine Plan.wp_region_pl [(false, 0, []), (false, 1, []), (false, 2, []), (false, 3, []), (false, 4, []), (false, 5, []), (false, 6, []), (false, 7, []), (false, 8, []), (false, 9, []), (false, 10, []), (false, 11, []), (false, 12, []), (false, 13, []), (true, 14, []), (false, 15, []), (false, 16, []), (false, 17, []), (false, 18, []), (false, 19, [])] (by as_aux_lemma => kernel_rfl) (by as_aux_lemma => kernel_rfl) ?_
      generalize wg.drew = wh at *
      have c1 := cell_of HXh.out (i := 1) (by rfl)
      have f2 := HF2.out wh HFh.out
      iterate 14 (refine Plan.pl_st rfl ?_; go_big_quiet_step (fail); refine wpQuiet_nil ?_)
      refine Plan.pl_ac rfl ?_
      rw [hraw]
      go_wp2_with fail
      refine (r_unpack cm.fs cp cz raw wh (HFPF.out wh HFh.out)).mono ?_
      rintro r wi ⟨ua, uc, rfl, hu, hk⟩
      have HU := hid hu
      have HKi := hid (HKh.out.trans hk); have HRi := hid (HRh.out.trans (hk.mono (T := fun g => B1 ≤ g) (fun _ _ h => h.elim)))
      have HOi := hid (owns_keep HOh.out (fun j hj => hk.block j (HOh.out.lt j hj).2 (fun e => e)))
      have HCVi := hid (PVO.keep HCVh.out hk (fun x hx j hj e => e))
      clear hk hu c1 f2
      go_wp2
      refine Plan.plQ_mk Plan.chk_end ?_
      iterate 5 (refine Plan.pl_st rfl ?_; go_big_quiet_step (fail); refine wpQuiet_nil ?_)
      refine Plan.pl_end ?_
      obtain ⟨E, hE⟩ : ∃ E, unE cm.fs raw = E := ⟨_, rfl⟩
      rw [hE] at HRP2 ⊢
      have HEE := hid hE
      clear hE
      by_cases hE0 : E = 0
      rotate_left
      · have HG : Hid (goodP v cs s = false) := hid (HFAIL.out (by rw [HRP2.out]; exact decide_eq_false hE0))
        have e3 : ((E : Int) != 0) = true := by rw [bne_iff_ne]; omega
        have e4 : (E != 0) = true := by rw [bne_iff_ne]; exact hE0
        clear hE0
        go_wp2
        (try simp only [Exit.inBlock, Exit.then])
        refine bodyPost_ret (results_2z rfl _) rfl ?_
        exact HZERO.out HG.out _ HKi.out
      have e3 : ((E : Int) != 0) = false := by rw [hE0]; rfl
      have e4 : (E != 0) = false := by rw [hE0]; rfl
      have HFT : Hid (fitC cm.fs (unV cm.fs raw) = 0) := hid ((back_bytes (HEE.out.trans hE0)).1)
      have HNX2 : Hid (ptsOf cs s = (rdPs cs (n - (k + 1)) (atS L (a + 1 + z))).map (fun p => (out.map (·.1) ++ ((⟨(id : Int), unV cm.fs raw⟩ : Prt) :: p.1), p.2))) := hid (by
        rw [HPO.out, HNEX.out, HRP2.out, if_pos (decide_eq_true hE0)])
      clear hE0 HRP
      generalize hvv : unV cm.fs raw = vv at *
      clear hvv
      obtain ⟨a2, ha2⟩ : ∃ a2 : Nat, a + 1 + z = a2 := ⟨_, rfl⟩
      have HNEXT : Hid (rdPs cs n (atS L 1) = (rdPs cs (n - (k + 1)) (atS L a2)).map (fun p => ((out ++ [((⟨(id : Int), vv⟩, ua, uc) : Pv)]).map (·.1) ++ p.1, p.2))) := hid (by
        rw [← HPO.out, HNX2.out, ha2]
        simp)
      have HA2L : Hid (a2 ≤ L.length) := hid (by rw [HLL.out]; omega)
      have hza : (a : Int) + 1 + (z : Int) = (a2 : Int) := by omega
      have HRN2 := hid (HRN.out ⟨(id : Int), vv⟩ rfl)
      have HPN := hid (HPC0.out vv HFT.out)
      have hwu : wi.heap.size ≤ wi.heap.size := Nat.le_refl _
      obtain ⟨wb, hwb, hbb, hsb, hkb⟩ := box1 wi #[.int .i64 (id : Int), .slice ua vv.length uc] 30
      have HBB2 := hid hbb
      have HKRB := hid (HRi.out.trans (hkb.mono (T := fun g => B1 ≤ g) (fun _ _ h => h.elim)))
      have HOB := hid (owns_keep HOi.out (fun j hj => hkb.block j (HOi.out.lt j hj).2 (fun e => e)))
      have HCVB := hid (PVO.keep HCVi.out hkb (fun y hy j hj e => e))
      have HUB2 := hid (owns_keep HU.out (fun j hj => hkb.block j (HU.out.lt j hj).2 (fun e => e)))
      have HSB := hid hsb
      clear hbb hsb hkb hwu
      have hol2 : out.length ≤ 255 := by have := HOL.out; omega
      go_wp2_with (at_builtin; go_loud (rw [← hwb]); go_loud (refine wpList_append_rd rfl (.tmp 95) (.tmp 102) _ rfl B1 _ i0 _ 2 32 Tryz.underlying25 hi0 hz0 hz1 hz2 rfl (by decide) _ out.length _ (by rfl) HOB.out _ 1 (pcl (⟨(id : Int), vv⟩, ua, uc)) (by rfl) (rd_block HBB2.out (by simp [pcl]) (pcl_one _)) (by unfold maxLen; omega) (by omega) (by have := HKRB.out.size; have := HB1.out; omega) ?_))
      intro v' wn hown5 hgrow5 hat5 hn5
      rw [← hwb] at hgrow5
      clear hwb
      obtain ⟨vp, vc, rfl⟩ := owns_val hown5
      have HWRB : Hid (wr.heap.size ≤ wh.heap.size ∧ B1 ≤ wh.heap.size) := hid (by
        have h1 := HSZh.out; have h2 := HSZd.out; have h3 := HRh.out.size; have h4 := HB1.out
        omega)
      have hrow : ∀ y ∈ out ++ [((⟨(id : Int), vv⟩, ua, uc) : Pv)], ∀ j, (Value.slice y.2.1 y.1.vals.length y.2.2).ownBlock = some j → j < wb.heap.size ∧ B1 ≤ j ∧ (Value.slice q out.length c).ownBlock ≠ some j := fun y hy j hj => by
        rcases List.mem_append.1 hy with hy | hy
        · exact ⟨((HCVB.out y hy).lt j hj).2, ((HCVB.out y hy).lt j hj).1, HAP.out y hy j hj⟩
        · rw [List.mem_singleton] at hy
          subst hy
          have h1 := HUB2.out.lt j hj
          refine ⟨h1.2, by have := HWRB.out; omega, fun e => ?_⟩
          have := (HOWN.out.lt j e).2
          have := HWRB.out
          omega
      have HOX : Hid (wn.ownsRow B1 30 2 (.slice vp (out.length + 1) vc) (out.length + 1) ((out ++ [((⟨(id : Int), vv⟩, ua, uc) : Pv)]).flatMap pcl)) := hid (by
        rw [List.flatMap_append]
        simpa using hown5)
      have HCX : Hid (PVO wn B1 (out ++ [((⟨(id : Int), vv⟩, ua, uc) : Pv)])) := hid (by
        intro y hy
        have hr := hrow y hy
        have hb : wb.ownsRow B1 54 3 (.slice y.2.1 y.1.vals.length y.2.2) y.1.vals.length (y.1.vals.flatMap wcl) := by
          rcases List.mem_append.1 hy with hy | hy
          · exact HCVB.out y hy
          · rw [List.mem_singleton] at hy
            subst hy
            exact owns_mono HUB2.out HWRB.out.2
        exact owns_keep hb (fun j hj => hgrow5.block j (hr j hj).1 (fun e => (hr j hj).2.2 e.symm)))
      have HAX : Hid (∀ y ∈ out ++ [((⟨(id : Int), vv⟩, ua, uc) : Pv)], ∀ j, (Value.slice y.2.1 y.1.vals.length y.2.2).ownBlock = some j → (Value.slice vp (out.length + 1) vc).ownBlock ≠ some j) := hid (fun y hy j hj e => by
        have hr := hrow y hy j hj
        rcases hat5 with h | h
        · exact hr.2.2 (h ▸ e)
        · rw [h] at e; injection e with e; have := HSB.out; omega)
      have HKX : Hid (Keep (fun g => B1 ≤ g) w1 wn) := hid (Keep.grown HKRB.out hgrow5 (fun k hk => .inr (HOB.out.lt k hk).1))
      have HRX : Hid (Rise ((out ++ [((⟨(id : Int), vv⟩, ua, uc) : Pv)]).map (·.1))) := hid (by rw [List.map_append]; exact HRN2.out)
      have HPX : Hid (∀ x ∈ (out ++ [((⟨(id : Int), vv⟩, ua, uc) : Pv)]).map (·.1), partC cs x = 0) := hid (fun x hx => by
        rw [List.map_append] at hx
        rcases List.mem_append.1 hx with hx | hx
        · exact HPA.out x hx
        · simp at hx; subst hx; exact HPN.out)
      clear hown5 hgrow5 hat5 hn5 hrow g1 g3 g4 e1 e3 e4 hol2
      go_wp2
      (try rw [hza])
      go_roundw
      case rel => exact ⟨k + 1, out ++ [((⟨(id : Int), vv⟩, ua, uc) : Pv)], vp, vc, a2, by omega, by go_num, by first | rfl | (rw [hza]), by rw [List.length_append]; rfl, by rw [List.length_append, HOL.out]; rfl, HA2L.out, HNEXT.out, by rw [List.length_append]; exact HOX.out, HCX.out, by rw [List.length_append]; exact HAX.out, HRX.out, HPX.out, HKX.out⟩
      case measure => simp [RowKit.intOf]; omega
    · obtain rfl : k = n := by omega
      have g1 : decide ((k : Int) < (k : Int)) = false := decide_eq_false (by omega)
      obtain ⟨l, hl⟩ : ∃ l : List Prt, out.map (·.1) = l := ⟨_, rfl⟩
      have HLQ : Hid (l.length = out.length) := hid (by rw [← hl, List.length_map])
      have HPT : Hid (ptsOf cs s = some (l, atS L a)) := hid (by
        rw [HPO.out, HROW.out, Nat.sub_self, rdPs, Option.map_some, List.append_nil, hl])
      have HPP : Hid (PP wr wr.heap.size q l) := hid (by
        have h := pp_own rfl HOWN.out HCV.out
        rwa [hl] at h)
      have HPZ : Hid (prtsC v cs l = 0) := hid ((prtsC_iff HZ.out).2 ⟨by rw [← hl]; exact HPA.out, by rw [← hl]; exact HRI.out⟩)
      have HSZA : Hid ((atS L a).1.size = s.size - a) := hid (by unfold atS; rw [bs_size, List.length_drop, HLL.out])
      have HGP : Hid (goodP v cs s = decide (a = s.size)) := hid (by
        unfold goodP
        rw [HPT.out]
        have h2 : (atS L a).2 = false := rfl
        simp only [h2, HPZ.out, HSZA.out]
        by_cases h : a = s.size
        · simp [h]
        · have : ¬ s.size - a = 0 := by omega
          simp [h, this])
      have HDP : Hid (goodP v cs s = true → l = decPL v cs s) := hid (fun h => by unfold decPL; rw [HPT.out]; simp only [h, if_true])
      have HRES : Hid (∀ b : Bool, decide (a = s.size) = b → RdP8 v cs s w (Ending.returned (.tuple #[.slice q out.length c, .bool b])) wr) := hid (fun b hb => by
        unfold RdP8
        refine ⟨q, c, l, by rw [HGP.out, hb, HLQ.out], HDP.out, HPP.out, by have := HLQ.out; have := HOL.out; omega, HKW.out⟩)
      by_cases hae : a = s.size
      · have g3 : ((a : Int) == (s.size : Int)) = true := by rw [hae]; simp
        have g4 : (a == s.size) = true := by rw [hae]; simp
        have G := hid (HRES.out true (decide_eq_true hae))
        clear hae
        go_wp2
        (try simp only [Exit.inBlock, Exit.then])
        refine bodyPost_ret (results_2z rfl _) rfl ?_
        exact G.out
      · have g3 : ((a : Int) == (s.size : Int)) = false := by rw [beq_eq_false_iff_ne]; omega
        have g4 : (a == s.size) = false := by rw [beq_eq_false_iff_ne]; exact hae
        have G := hid (HRES.out false (decide_eq_false hae))
        clear hae
        go_wp2
        (try simp only [Exit.inBlock, Exit.then])
        refine bodyPost_ret (results_2z rfl _) rfl ?_
        exact G.out
end Go.Proofs.YtfehiclbcebnoaaGreat
