/- What is proved: the walk of CheckEnough: a right formula finds all its elements. -/
import Derived.Test.YtjebgidddfamlaaMWideMul
import Derived.Test.YtjebgidddfamlaaMLaw13
import Derived.Test.YtjebgidddfamlaaMExEval
import Derived.Test.YtjebgidddfamlaaMWide2
import Derived.Test.YtjebgidddfamlaaMSchCheck
namespace Go.Proofs.Ytjebgidddfamlaa
open Go.RowKit Go.Proofs.Heap Go.Proofs.Sch Go.Proofs.Wide

theorem zero_cells (m : Nat) (hm : m ≤ 8) : madeCells (Value.agg #[.bool false, .int .u64 0, .int .u64 0]).cells (m * 3) = ((List.replicate m zW).flatMap wcl).toArray := by
  obtain rfl | rfl | rfl | rfl | rfl | rfl | rfl | rfl | rfl : m = 0 ∨ m = 1 ∨ m = 2 ∨ m = 3 ∨ m = 4 ∨ m = 5 ∨ m = 6 ∨ m = 7 ∨ m = 8 := by omega
  all_goals (clear hm; kernel_rfl)
theorem mk_zero (m : Nat) (hm : m ≤ 8) (w : World) : (Instr.makeSlice 35 (.int .i64 (m : Int)) (.int .i64 (m : Int))).run Try.prog w = .ok (.slice (some ⟨w.heap.size, 0, none⟩) m m) (w.alloc (.cells ((List.replicate m zW).flatMap wcl).toArray 38)) := by
  obtain ⟨i1, hi1, hy0, hy1, hy2⟩ := info_parts' info_wi
  have := run_make (P := Try.prog) w 35 38 i1 _ Try.underlying35 hi1 hy0 .i64 .i64 (m : Int) (m : Int) (by omega) (by omega) (by rw [hy2]; omega) (by omega)
  rw [this, hy1, Int.toNat_natCast]
  rw [zero_cells m hm]
theorem zlen (m : Nat) : ((List.replicate m zW).flatMap wcl).length = m * 3 := by
  induction m with
  | zero => rfl
  | succ n ih => rw [List.replicate_succ, List.flatMap_cons, List.length_append, ih]; simp [wcl]; omega
theorem own_zero {w : World} {b m : Nat} (hm : m ≤ 8) (h : w.heap[b]? = some (.cells ((List.replicate m zW).flatMap wcl).toArray 38 (0, 0))) : w.ownsRow b 38 3 (.slice (some ⟨b, 0, none⟩) m m) m ((List.replicate m zW).flatMap wcl) := by
  have hl := zlen m
  exact ⟨hl, .inr ⟨_, _, _, rfl, Nat.le_refl _, h, Nat.le_refl _, by unfold maxLen; omega, by simp [hl], by simp; rw [← hl, List.take_length]⟩⟩
theorem zeroF_next {fs : List Fld} {n : Nat} {g : Fld} {m : Nat} (h : fs[n]? = some g) (hc : g.count = (m : Int)) : zeroF (fs.take (n + 1)) = zeroF (fs.take n) ++ [List.replicate m zW] := by
  rw [take_next h]
  unfold zeroF
  rw [List.map_append, List.map_singleton, hc, Int.toNat_natCast]
theorem zeroF_fit (fs : List Fld) : FitF (zeroF fs) := fun l hl x hx => by
  obtain ⟨g, _, rfl⟩ := List.mem_map.1 hl
  rw [(List.mem_replicate.1 hx).2]; exact zW_fit
theorem RowsO.keepS {S : Nat → Prop} {w w' : World} {B : Nat} {v : Value} {rs : List Rw} (h : RowsO w B v rs) (hk : Keep S w w') (hS : ∀ j, S j → j < B) : RowsO w' B v rs :=
  ⟨owns_keep h.own (fun j hj => hk.block j (h.own.lt j hj).2 (fun s => by have := hS j s; have := (h.own.lt j hj).1; omega)), fun r hr => owns_keep (h.each r hr) (fun j hj => hk.block j ((h.each r hr).lt j hj).2 (fun s => by have := hS j s; have := ((h.each r hr).lt j hj).1; omega)), h.apart, h.diff⟩
theorem zeroF_len (fs : List Fld) : (zeroF fs).length = fs.length := List.length_map ..

set_option maxRecDepth 20000 in
set_option maxHeartbeats 32000000 in
theorem ch_enough (oi : Int) (on : ByteArray) (fs : List Fld) (p : Option Addr) (cap : Nat) (fn : ByteArray) (fk fc : Int) (code : List Ins) (q : Option Addr) (qc : Nat) (w : World) (hfit : ∀ x ∈ code, x.k.fit) (hf : FP w w.heap.size p fs) (hc : IP w w.heap.size q code) :
    Calls Try.prog 3 #[.agg #[.int .i64 oi, .string on, .slice p fs.length cap], .agg #[.string fn, .int .i64 fk, .int .i64 fc], .slice q code.length qc] w fun r w' => r = .returned (.bool true) ∧ Keep (fun _ => False) w w' := by
  obtain ⟨i0, hi0, hz0, hz1, hz2⟩ := info_parts' info_rowO
  obtain ⟨w2, hw2, hb1, hb2, hs2, hk2⟩ := box2 w #[.int .i64 oi, .string on, .slice p fs.length cap] #[.string fn, .int .i64 fk, .int .i64 fc] 24 27
  have HFP : Hid (∀ wy, Keep (fun _ => False) w wy → FP wy wy.heap.size p fs) := hid (fun wy hk => FP.mono (FP.low hf (Low.keep0 hk)) hk.size)
  have HIP : Hid (∀ wy, Keep (fun _ => False) w wy → IP wy wy.heap.size q code) := hid (fun wy hk => IP.mono (IP.low hc (Low.keep0 hk)) hk.size)
  have HX := hid hfit
  have HK2 := hid hk2; have HA2 := hid hb1; have HB2 := hid hb2
  clear hb1 hb2 hs2 hk2 hfit hf hc
  go_enter Try.func3, Try.ntmps3
  go_upto_region 1 with fail
  rw [← hw2]
  clear hw2
  obtain ⟨sb, hsb⟩ : ∃ sb, w.heap.size = sb := ⟨_, rfl⟩
  rw [hsb] at HA2 HB2 ⊢
  have HSB := hid hsb
  clear hsb
  go_wp2_with fail
  refine (awake_true _).mono ?_
  rintro r w3 ⟨rfl, hk⟩
  have HK3 := hid (HK2.out.trans hk); have HA3 := hid (hk.get HA2.out id); have HB3 := hid (hk.get HB2.out id)
  clear hk
  have a0 := cell_of HA3.out (i := 0) (by rfl)
  have a1 := cell_of HA3.out (i := 1) (by rfl)
  have a2 := cell_of HA3.out (i := 2) (by rfl)
  have b0 := cell_of HB3.out (i := 0) (by rfl)
  have b1 := cell_of HB3.out (i := 1) (by rfl)
  have b2 := cell_of HB3.out (i := 2) (by rfl)
  by_cases h1 : 12 < fs.length
  · have g1 : decide ((12 : Int) < (fs.length : Int)) = true := decide_eq_true (by omega)
    have g1' : decide (12 < fs.length) = true := decide_eq_true h1
    go_wp2
    go_ret
    exact ⟨rfl, HK3.out⟩
  have g1 : decide ((12 : Int) < (fs.length : Int)) = false := decide_eq_false (by omega)
  have g1' : decide (12 < fs.length) = false := decide_eq_false h1
  by_cases h2 : fc < 1
  · have g2 : decide (fc < 1) = true := decide_eq_true h2
    clear h1 h2
    go_wp2
    go_ret
    exact ⟨rfl, HK3.out⟩
  have g2 : decide (fc < 1) = false := decide_eq_false h2
  by_cases h3 : 8 < fc
  · have g3 : decide (8 < fc) = true := decide_eq_true h3
    clear h1 h2 h3
    go_wp2
    go_ret
    exact ⟨rfl, HK3.out⟩
  have g3 : decide (8 < fc) = false := decide_eq_false h3
  have HFL : Hid (fs.length ≤ 12) := hid (by omega)
  obtain ⟨n, rfl⟩ := Int.eq_ofNat_of_zero_le (a := fc) (by omega)
  have HN : Hid (1 ≤ n ∧ n ≤ 8) := hid (by omega)
  have HCF := hid (chk_formula ⟨oi, on, fs⟩ ⟨fn, fk, (n : Int)⟩ code p cap q qc w3 (by simp only; have := HFL.out; omega) HX.out (HFP.out _ HK3.out) (HIP.out _ HK3.out))
  clear h1 h2 h3
  have hlen : (fs.length : Int) ≤ 12 := by have := HFL.out; omega
  go_wp2_with fail
  refine HCF.out.mono ?_
  clear HCF
  rintro r w4 ⟨rfl, hk⟩
  have HK4 := hid (HK3.out.trans hk); have HA4 := hid (hk.get HA3.out id); have HB4 := hid (hk.get HB3.out id)
  clear hk a0 a1 a2 b0 b1 b2 hlen g2 g3 g1 g1'
  by_cases hck : formC ⟨oi, on, fs⟩ ⟨fn, fk, (n : Int)⟩ code = 0
  rotate_left
  · generalize formC ⟨oi, on, fs⟩ ⟨fn, fk, (n : Int)⟩ code = e at *
    have g1 : ((e : Int) != 0) = true := by simp only [bne, beq_eq_false_iff_ne.2 (show (e : Int) ≠ 0 by omega)]; rfl
    have g2 : (e != 0) = true := by simp only [bne, beq_eq_false_iff_ne.2 hck]; rfl
    have g3 : ((e : Int) == 0) = false := beq_eq_false_iff_ne.2 (by omega)
    have g4 : (e == 0) = false := beq_eq_false_iff_ne.2 hck
    clear hck
    go_wp2
    go_ret
    exact ⟨rfl, HK4.out⟩
  have HCK := hid hck
  rw [hck]
  clear hck
  obtain ⟨w5, hw5, hb5, hs5, hk5⟩ := box1 w4 #[.slice none 0 0, .int .i64 0] 34
  have HE5 := hid hb5; have HK5 := hid (HK4.out.trans hk5); have HA5 := hid (hk5.get HA4.out id); have HB5 := hid (hk5.get HB4.out id)
  have HS5 := hid hs5
  clear hb5 hs5 hk5
  go_upto_region 6 with fail
  rw [← hw5]
  clear hw5
  obtain ⟨eb, heb⟩ : ∃ eb, w4.heap.size = eb := ⟨_, rfl⟩
  have HEB : Hid (sb < eb ∧ sb + 1 < eb ∧ sb ≤ eb ∧ w.heap.size ≤ eb ∧ eb < w5.heap.size) := hid (by
    have h1 := lt_of_heap HA4.out; have h2 := lt_of_heap HB4.out; have := HSB.out; have := HS5.out; omega)
  rw [heb] at HE5 ⊢
  clear heb
  go_wp2_with fail
  go_loopw [8] (fun i wr => ∃ (k : Nat) (rs : List Rw) (vp : Option Addr) (vc : Nat), k = rs.length ∧ k ≤ fs.length ∧ i = iV k ∧ rs.map (·.1) = zeroF (fs.take k) ∧ wr.heap[eb]? = some (.cells #[.slice vp k vc, .int .i64 0] 34 (0, 0)) ∧ RowsO wr w5.heap.size (.slice vp k vc) rs ∧ Keep (fun j => j = eb) w5 wr) (fun i _ => fs.length + 1 - (RowKit.intOf i).toNat)
  case atStart => exact ⟨0, [], none, 0, rfl, Nat.zero_le _, rfl, by simp [zeroF], HE5.out, ⟨World.ownsRow_nil _ _ _ _, fun r hr => by simp at hr, fun r hr => by simp at hr, fun i1 i2 r1 r2 h1 => by simp at h1⟩, Keep.refl _ _⟩
  case round =>
    obtain ⟨k, rs, vp, vc, hk, hkl, rfl, hmap, hbo, hro, hkr⟩ := hrel
    subst hk
    have HRO := hid hro; have HKR := hid hkr; have HMP := hid hmap; have HBO := hid hbo
    have HKW : Hid (Keep (fun _ => False) w wr) := hid (keep_new HK5.out hkr (fun k e => by have := HEB.out; omega))
    have HAR := hid (hkr.get HA5.out (by have := HEB.out; omega)); have HBR := hid (hkr.get HB5.out (by have := HEB.out; omega))
    have HSW : Hid (w5.heap.size ≤ wr.heap.size) := hid hkr.size
    clear hro hkr hmap hbo
    have hfl : fs.length ≤ 12 := HFL.out
    have hfl2 : (fs.length : Int) ≤ 12 := by omega
    by_cases hlt : rs.length < fs.length
    · as_aux_lemma =>
      obtain ⟨g, hg⟩ : ∃ g, fs[rs.length]? = some g := ⟨fs[rs.length], by simp [hlt]⟩
      obtain ⟨b, off, rfl, hb, x0, x1, x2⟩ := FP.at (HFP.out _ HKW.out) hg
      have a2 := cell_of HAR.out (i := 2) (by rfl)
      have hin : (0 : Int) ≤ (rs.length : Int) ∧ (rs.length : Int) < (fs.length : Int) := ⟨by omega, by omega⟩
      have HG := hid hg
      obtain ⟨gn, gk, gc⟩ := g
      simp only at x2
      clear hg x0 x1
      by_cases h1 : gc < 0
      · have g1 : decide (gc < 0) = true := decide_eq_true h1
        clear h1
        go_wp2
        go_ret
        exact ⟨rfl, HKW.out⟩
      have g1 : decide (gc < 0) = false := decide_eq_false h1
      by_cases h2 : 8 < gc
      · have g2 : decide (8 < gc) = true := decide_eq_true h2
        clear h1 h2
        go_wp2
        go_ret
        exact ⟨rfl, HKW.out⟩
      have g2 : decide (8 < gc) = false := decide_eq_false h2
      obtain ⟨m, rfl⟩ := Int.eq_ofNat_of_zero_le (a := gc) (by omega)
      have HM : Hid (m ≤ 8) := hid (by omega)
      have HMN : Hid ((rs ++ [((List.replicate m zW, some ⟨wr.heap.size, 0, none⟩, m) : Rw)]).map (·.1) = zeroF (fs.take (rs.length + 1))) := hid (by rw [zeroF_next HG.out rfl, List.map_append, HMP.out]; rfl)
      clear h1 h2
      go_upto_region 11 with fail
      clear g1 g2
      have hmk := mk_zero m HM.out wr.drew
      refine Plan.wp_region_pl [(false, 0, []), (false, 1, []), (false, 2, []), (false, 3, []), (false, 4, []), (false, 5, []), (false, 6, []), (false, 7, []), (true, 8, [1, 0]), (true, 9, [1, 0]), (true, 10, []), (false, 11, []), (true, 12, [])] (by as_aux_lemma => kernel_rfl) (by as_aux_lemma => kernel_rfl) ?_
      generalize hwd : wr.drew = wd at *
      have HRD : Hid (RowsO wd w5.heap.size (.slice vp rs.length vc) rs) := hid (by rw [← hwd]; exact HRO.out.low (Keep.refl _ _).drew)
      have HBD : Hid (wd.heap[eb]? = some (.cells #[.slice vp rs.length vc, .int .i64 0] 34 (0, 0))) := hid (by rw [← hwd]; exact HBO.out)
      have HAD : Hid (wd.heap[sb]? = some (.cells #[.int .i64 oi, .string on, .slice (some ⟨b, off, none⟩) fs.length cap] 24 (0, 0))) := hid (by rw [← hwd]; exact HAR.out)
      have HKD : Hid (Keep (fun j => j = eb) w5 wd) := hid (by rw [← hwd]; exact HKR.out.drew)
      have x2d : wd.cell? ⟨b, off + rs.length * 3 + 2, none⟩ = some (.int .i64 (m : Int)) := by rw [← hwd]; exact x2
      have HXS : Hid (wd.heap.size = wr.heap.size) := hid (by rw [← hwd]; rfl)
      clear x2 a2 hwd
      have e0 : wd.cell? ⟨eb, 0, none⟩ = some (.slice vp rs.length vc) := cell_of HBD.out (by rfl)
      have a2 : wd.cell? ⟨sb, 2, none⟩ = some (.slice (some ⟨b, off, none⟩) fs.length cap) := cell_of HAD.out (by rfl)
      have HLT : Hid (∀ r ∈ rs, ∀ j, (rV r).ownBlock = some j → j < wd.heap.size) := hid (fun r hr j hj => ((HRD.out.each r hr).lt j hj).2)
      have HVL : Hid (∀ j, (Value.slice vp rs.length vc).ownBlock = some j → j < wd.heap.size) := hid (fun j hj => (HRD.out.own.lt j hj).2)
      have HSD : Hid (w5.heap.size ≤ wd.heap.size) := hid HKD.out.size
      obtain ⟨wa, hwa, hba, hsa, hka⟩ := box1 wd ((List.replicate m zW).flatMap wcl).toArray 38
      have HOA := hid (own_zero HM.out hba)
      obtain ⟨xb, hxb⟩ : ∃ xb, wd.heap.size = xb := ⟨_, rfl⟩
      obtain ⟨wb, hwb, hbb, hsb, hkb⟩ := box1 wa #[.slice (some ⟨xb, 0, none⟩) m m] 35
      have HXB := hid hxb
      have HBA := hid (hka.get HBD.out id)
      have HCB := hid hbb
      have HKAB := hid (hka.trans hkb)
      have HOB : Hid (wb.ownsRow xb 38 3 (.slice (some ⟨xb, 0, none⟩) m m) m ((List.replicate m zW).flatMap wcl)) := hid (by
        have h := HOA.out; rw [hxb] at h
        exact owns_keep h (fun j hj => hkb.block j (h.lt j hj).2 id))
      have HRB := hid (HRD.out.low HKAB.out)
      have HBB := hid (HKAB.out.get HBD.out id)
      have HKB : Hid (Keep (fun j => j = eb) w5 wb) := hid (HKD.out.trans (HKAB.out.mono (fun _ _ h => h.elim)))
      clear hba hsa hka hbb hsb hkb HOA
      iterate 8 (refine Plan.pl_st rfl ?_; go_big_quiet_step (fail); refine wpQuiet_nil ?_)
      refine Plan.pl_ac rfl ?_
      go_wp2
      rw [← hwa]
      clear hwa hmk e0
      have e0 : wa.cell? ⟨eb, 0, none⟩ = some (.slice vp rs.length vc) := cell_of HBA.out (by rfl)
      refine Plan.plQ_mk ?_ ?_
      · iterate 2 (refine Plan.chk_st rfl ?_ ?_; focus (go_big_quiet_step (fail); exact wpQuiet_nil rfl))
        exact Plan.chk_end
      refine Plan.pl_ac rfl ?_
      go_wp2
      rw [← hwb]
      clear hwb e0 hxb
      have e0 : wb.cell? ⟨eb, 0, none⟩ = some (.slice vp rs.length vc) := cell_of HBB.out (by rfl)
      refine Plan.plQ_mk ?_ ?_
      · iterate 2 (refine Plan.chk_st rfl ?_ ?_; focus (go_big_quiet_step (fail); exact wpQuiet_nil rfl))
        exact Plan.chk_end
      refine Plan.pl_ac rfl ?_
      refine wpList_append_rd rfl _ _ _ rfl w5.heap.size _ i0 _ 1 24 Try.underlying32 hi0 hz0 hz1 hz2 rfl (by decide) _ rs.length _ (by rfl) HRB.out.own _ 1 [.slice (some ⟨xb, 0, none⟩) m m] (by rfl) (rd_block HCB.out (by rfl) (by simp [Value.oneCell'])) (by unfold maxLen; omega) (by omega) (HKB.out.size) ?_
      intro v' w6 hown hgrow hat hn5
      obtain ⟨vq, vd, rfl⟩ := owns_val hown
      have hrv : rV ((List.replicate m zW, some ⟨xb, 0, none⟩, m) : Rw) = .slice (some ⟨xb, 0, none⟩) m m := by unfold rV; simp only [List.length_replicate]
      have HM6 := hid (RowsO.more (w := wd) (r := (List.replicate m zW, some ⟨xb, 0, none⟩, m)) HRB.out (fun r hr j hj => HLT.out r hr j hj) HSD.out (by rw [HXB.out]; show wb.ownsRow xb 38 3 (.slice (some ⟨xb, 0, none⟩) (List.replicate m zW).length m) (List.replicate m zW).length _; rw [List.length_replicate]; exact HOB.out) (fun j hj e => by have h1 := HVL.out j e; have h2 : j = xb := (by simp [rV, Value.ownBlock] at hj; omega); have h3 := HXB.out; omega) (by rw [hrv]; exact hown) hgrow hat)
      have HK6 := hid (Keep.grown HKB.out hgrow (fun k hk => .inl (HRB.out.own.lt k hk).1))
      have HE6 : Hid (w6.heap[eb]? = some (.cells #[.slice vp rs.length vc, .int .i64 0] 34 (0, 0))) := hid ((hgrow.block eb (lt_of_heap HBB.out) (fun e => by have := (HRB.out.own.lt eb e.symm).1; have := HEB.out; omega)).trans HBB.out)
      have HEV : Hid (∀ j, (Value.slice vq (rs.length + 1) vd).ownBlock = some j → j ≠ eb) := hid (fun j hj e => by have := (hown.lt j hj).1; have := HEB.out; omega)
      clear hown hgrow hat hn5 e0 hrv
      have e0 : w6.cell? ⟨eb, 0, none⟩ = some (.slice vp rs.length vc) := cell_of HE6.out (by rfl)
      have f0 : w6.frozen? ⟨eb, 0, none⟩ = false := free_of HE6.out 0
      go_wp2
      refine Plan.plQ_mk Plan.chk_end ?_
      iterate 1 (refine Plan.pl_st rfl ?_; go_big_quiet_step (fail); refine wpQuiet_nil ?_)
      refine Plan.pl_ac rfl ?_
      go_wp2
      refine Plan.plQ_mk Plan.chk_end ?_
      refine Plan.pl_end ?_
      obtain ⟨wS, hwS⟩ : ∃ wS, w6.setCell ⟨eb, 0, none⟩ (.slice vq (rs.length + 1) vd) = wS := ⟨_, rfl⟩
      have HES : Hid (wS.heap[eb]? = some (.cells #[.slice vq (rs.length + 1) vd, .int .i64 0] 34 (0, 0))) := hid (by rw [← hwS, hsc_same HE6.out 0 (.slice vq (rs.length + 1) vd)]; rfl)
      have HKS : Hid (Keep (fun j => j = eb) w5 wS) := hid (by rw [← hwS]; exact HK6.out.setCell (p := ⟨eb, 0, none⟩) rfl _)
      have HOS : Hid (RowsO wS w5.heap.size (.slice vq (rs.length + 1) vd) (rs ++ [((List.replicate m zW, some ⟨xb, 0, none⟩, m) : Rw)])) := hid (by
        rw [← hwS]
        have h := HM6.out
        refine ⟨?_, fun r hr => ?_, h.apart, h.diff⟩
        · exact owns_keep h.own (fun j hj => hsc_ne _ (HEV.out j hj))
        · exact owns_keep (h.each r hr) (fun j hj => hsc_ne _ (fun e => by have := ((h.each r hr).lt j hj).1; have := HEB.out; omega)))
      (try rw [hwS])
      clear hwS e0 f0
      go_wp2
      go_roundw
      case rel => exact ⟨rs.length + 1, rs ++ [(List.replicate m zW, some ⟨xb, 0, none⟩, m)], vq, vd, by simp, by omega, by go_num, by have h := HMN.out; simpa using h, HES.out, HOS.out, HKS.out⟩
      case measure => simp [intOf]; omega
    · obtain hkl2 : rs.length = fs.length := by omega
      have hmf : rs.map (·.1) = zeroF fs := by rw [HMP.out, hkl2, List.take_length]
      have HMF := hid hmf
      have HEBW : Hid (eb < wr.heap.size) := hid (lt_of_heap HBO.out)
      have a2 := cell_of HAR.out (i := 2) (by rfl)
      have g0 : decide ((rs.length : Int) < (fs.length : Int)) = false := decide_eq_false (by omega)
      have g0' : decide (rs.length < fs.length) = false := decide_eq_false (by omega)
      rw [hkl2] at HBO
      clear HMP hlt hmf hkl hkl2
      generalize wr = w7 at *
      go_wp2_with fail
      clear a2 g0 g0'
      go_loopw [9] (fun i wr => ∃ k : Nat, k ≤ code.length ∧ i = iV k ∧ Keep (fun _ => False) w7 wr ∧ ∀ j x, j < k → code[j]? = some x → ¬ (5 ≤ x.op ∧ x.op ≤ 9)) (fun i _ => code.length + 1 - (RowKit.intOf i).toNat)
      case atStart => exact ⟨0, Nat.zero_le _, rfl, Keep.refl _ _, fun j x hj => by omega⟩
      case round =>
        obtain ⟨k, hk, rfl, hkr, hno⟩ := hrel
        have HKA := hid (HKW.out.trans hkr); have HK7 := hid hkr; have HNO := hid hno
        have hcl : code.length ≤ 64 := (exprC_all (formC_zero HCK.out).1).2.1
        have hcl2 : (code.length : Int) ≤ 64 := by omega
        clear hkr hno
        by_cases hlt : k < code.length
        · as_aux_lemma =>
          obtain ⟨x, hx⟩ : ∃ x, code[k]? = some x := ⟨code[k], by simp [hlt]⟩
          have hnext : ¬ (5 ≤ x.op ∧ x.op ≤ 9) → ∀ j y, j < k + 1 → code[j]? = some y → ¬ (5 ≤ y.op ∧ y.op ≤ 9) := fun h j y hj hy => by
            rcases Nat.lt_or_ge j k with g | g
            · exact HNO.out j y g hy
            · obtain rfl : j = k := by omega
              rw [hx] at hy; injection hy with hy; subst hy; exact h
          have HNX := hid hnext
          obtain ⟨b1, o1, rfl, _, c0, _⟩ := IP.at (HIP.out _ HKA.out) hx
          have hin : (0 : Int) ≤ (k : Int) ∧ (k : Int) < (code.length : Int) := ⟨by omega, by omega⟩
          obtain ⟨op, xa, xb, xk⟩ := x
          simp only at c0 HNX
          clear hnext hx
          by_cases h1 : 5 ≤ op
          · have g1 : decide (5 ≤ op) = true := decide_eq_true h1
            by_cases h2 : op ≤ 9
            · have g2 : decide (op ≤ 9) = true := decide_eq_true h2
              clear h1 h2
              go_wp2
              go_ret
              exact ⟨rfl, HKA.out⟩
            · have g2 : decide (op ≤ 9) = false := decide_eq_false h2
              have HN2 := hid (HNX.out (fun h => h2 h.2))
              clear h1 h2
              go_wp2
              go_roundw
              case rel => exact ⟨k + 1, by omega, by go_num, HK7.out, HN2.out⟩
              case measure => simp [intOf]; omega
          · have g1 : decide (5 ≤ op) = false := decide_eq_false h1
            have HN2 := hid (HNX.out (fun h => h1 h.1))
            clear h1
            go_wp2
            go_roundw
            case rel => exact ⟨k + 1, by omega, by go_num, HK7.out, HN2.out⟩
            case measure => simp [intOf]; omega
        · obtain rfl : k = code.length := by omega
          have HNON : Hid (∀ x ∈ code, ¬ (5 ≤ x.op ∧ x.op ≤ 9)) := hid (fun x hx => by
            obtain ⟨j, hj⟩ := List.getElem?_of_mem hx
            exact HNO.out j x (List.getElem?_eq_some_iff.1 hj).1 hj)
          have HRO8 := hid (RowsO.low HRO.out HK7.out)
          have HE8 := hid (HK7.out.get HBO.out id)
          have HB8 := hid (HK7.out.get HBR.out id)
          have HSZ : Hid (w.heap.size ≤ eb ∧ eb < wr.heap.size ∧ sb + 1 < eb) := hid (by have := HEB.out; have := HEBW.out; have := HK7.out.size; omega)
          clear HNO HBO HBR HRO HK7 HKW HKR HAR hlt hcl hcl2
          generalize wr = w8 at *
          go_wp2_with fail
          go_loopw [10] (fun i wr => ∃ k : Nat, k ≤ n ∧ i = iV k ∧ (∃ at0 : Int, wr.heap[eb]? = some (.cells #[.slice vp fs.length vc, .int .i64 at0] 34 (0, 0))) ∧ Keep (fun j => j = eb) w8 wr) (fun i _ => n + 1 - (RowKit.intOf i).toNat)
          case atStart => exact ⟨0, Nat.zero_le _, rfl, ⟨0, HE8.out⟩, Keep.refl _ _⟩
          case round =>
            obtain ⟨k, hk, rfl, ⟨at0, hbe⟩, hkr⟩ := hrel
            have hn8 : n ≤ 8 := HN.out.2
            have hn8' : (n : Int) ≤ 8 := by omega
            have HKB : Hid (Keep (fun _ => False) w wr) := hid (keep_new HKA.out hkr (fun k e => by have := HSZ.out; omega))
            have HBE := hid hbe; have HKR := hid hkr
            have b2 := cell_of (hkr.get HB8.out (by have := HSZ.out; omega)) (i := 2) (by rfl)
            clear hbe hkr
            by_cases hlt : k < n
            · as_aux_lemma =>
              have f1 := free_of HBE.out 1
              have e1 := cell_of HBE.out (i := 1) (by rfl)
              obtain ⟨wS, hwS⟩ : ∃ wS, wr.setCell ⟨eb, 1, none⟩ (.int .i64 (k : Int)) = wS := ⟨_, rfl⟩
              have HES : Hid (wS.heap[eb]? = some (.cells #[.slice vp fs.length vc, .int .i64 (k : Int)] 34 (0, 0))) := hid (by rw [← hwS, hsc_same HBE.out 1 (.int .i64 (k : Int))]; rfl)
              have HKS : Hid (Keep (fun _ => False) w wS) := hid (by rw [← hwS]; exact HKB.out.setCell_new (p := ⟨eb, 1, none⟩) HSZ.out.1 _)
              have HKRS : Hid (Keep (fun j => j = eb) w8 wS) := hid (by rw [← hwS]; exact HKR.out.setCell (p := ⟨eb, 1, none⟩) rfl _)
              have HRS := hid (RowsO.keepS HRO8.out HKRS.out (fun j e => by have := HEB.out; omega))
              have HYS : Hid (YP wS wS.heap.size vp (zeroF fs)) := hid (by rw [← HMF.out]; exact HRS.out.yp rfl)
              have hce := expr_eval code q qc (zeroF fs) vp vc (k : Int) wS HX.out (zeroF_fit fs) (by omega) (HIP.out _ HKS.out) HYS.out
              have hen := enough (old := ⟨oi, on, fs⟩) (f := ⟨fn, fk, (n : Int)⟩) HCK.out HX.out HNON.out (pl := (k : Int)) (by omega) (by simp only; omega) (by omega)
              simp only at hen
              rw [zeroF_len] at hce
              obtain ⟨A, e, hae⟩ : ∃ A e, evalW (zeroF fs) (k : Int) code = (A, e) := ⟨_, _, rfl⟩
              rw [hae] at hce hen
              have HCE := hid hce
              have HEN : Hid (e = 0 ∨ e = 9) := hid hen
              clear hce hen hae HRS
              go_upto_region 21 with fail
              (try rw [hwS])
              clear hwS e1 f1 b2
              have e0 := cell_of HES.out (i := 0) (by rfl)
              have e1 := cell_of HES.out (i := 1) (by rfl)
              go_wp2_with fail
              refine HCE.out.mono ?_
              rintro r w10 ⟨rfl, hk10⟩
              obtain ⟨w11, hw11, hb11, hs11, hk11⟩ := box1 w10 (WC A) 38
              have HK11 := hid (hk10.trans hk11)
              clear hb11 hs11 hk11 hk10 HCE e0 e1
              go_upto_region 22 with fail
              rw [← hw11]
              clear hw11
              have HRF : Hid ((∃ at0 : Int, w11.heap[eb]? = some (.cells #[.slice vp fs.length vc, .int .i64 at0] 34 (0, 0))) ∧ Keep (fun j => j = eb) w8 w11) := hid ⟨⟨_, HK11.out.get HES.out id⟩, HKRS.out.trans (HK11.out.mono (fun _ _ h => h.elim))⟩
              rcases HEN.out with he | he
              · have g1 : ((e : Int) != 0) = false := by rw [he]; rfl
                clear he
                go_wp2
                go_roundw
                case rel => exact ⟨k + 1, by omega, by go_num, HRF.out.1, HRF.out.2⟩
                case measure => simp [intOf]; omega
              · have g1 : ((e : Int) != 0) = true := by rw [he]; rfl
                have g2 : ((e : Int) != 9) = false := by rw [he]; rfl
                clear he
                go_wp2
                go_roundw
                case rel => exact ⟨k + 1, by omega, by go_num, HRF.out.1, HRF.out.2⟩
                case measure => simp [intOf]; omega
            · obtain rfl : k = n := by omega
              go_wp2
              go_ret
              exact ⟨rfl, HKB.out⟩
end Go.Proofs.Ytjebgidddfamlaa

namespace Go.Proofs.Ytjebgidddfamlaa
open Go.RowKit Go.Proofs.Heap Go.Proofs.Sch Go.Proofs.Wide

theorem enough_true (old : Cmp) (p : Option Addr) (cap : Nat) (f : Fld) (code : List Ins) (q : Option Addr) (qc : Nat) (w : World) (_hl : old.fs.length ≤ cap) (hf : FP w w.heap.size p old.fs) (_hc : code.length ≤ qc) (hc : IP w w.heap.size q code) (hfit : ∀ x ∈ code, x.k.fit) :
    Calls Try.prog 3 #[.agg #[.int .i64 old.id, .string old.name, .slice p old.fs.length cap], .agg #[.string f.name, .int .i64 f.kind, .int .i64 f.count], .slice q code.length qc] w fun e w' => e = .returned (.bool true) ∧ Below w.heap.size w w' :=
  (ch_enough old.id old.name old.fs p cap f.name f.kind f.count code q qc w hfit hf hc).mono fun _ _ h => ⟨h.1, h.2.below⟩
end Go.Proofs.Ytjebgidddfamlaa
