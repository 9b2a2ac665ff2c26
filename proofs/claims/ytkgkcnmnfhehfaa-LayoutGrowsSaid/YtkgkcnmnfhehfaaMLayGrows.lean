/- What is proved: the law that a field more moves nobody answers true (its walk). -/
import Derived.Test.YtkgkcnmnfhehfaaMRef05b
import Derived.Test.YtkgkcnmnfhehfaaMLayAwake
import Derived.Deep.Cut
import Derived.Deep.CutRange
import Derived.Deep.CutBlock
import Derived.Test.YtkgkcnmnfhehfaaMHeap
import Derived.Test.YtkgkcnmnfhehfaaProg
import Derived.Deep.Slices
import Derived.Deep.Strs
import Derived.ProofKit
import Derived.OpenShut
import Derived.ShutString
import Derived.ChangeOld
import Derived.Below
import Derived.SizedLaws
import Derived.Test.YtkgkcnmnfhehfaaMBox
namespace Go.Proofs.Ytkgkcnmnfhehfaa
open Go.RowKit Go.Proofs.Heap Go.Proofs.Sch Go.Proofs.Wide

theorem zeros_wi1 : (Builtin.zeroCells (Value.agg #[.bool false, .int .u64 0, .int .u64 0]).cells 1).toList = (List.replicate 1 (⟨false, 0, 0⟩ : WI)).flatMap wcl := by kernel_rfl
theorem zeros_wi2 : (Builtin.zeroCells (Value.agg #[.bool false, .int .u64 0, .int .u64 0]).cells 2).toList = (List.replicate 2 (⟨false, 0, 0⟩ : WI)).flatMap wcl := by kernel_rfl
theorem zeros_wi3 : (Builtin.zeroCells (Value.agg #[.bool false, .int .u64 0, .int .u64 0]).cells 3).toList = (List.replicate 3 (⟨false, 0, 0⟩ : WI)).flatMap wcl := by kernel_rfl
theorem zeros_wi4 : (Builtin.zeroCells (Value.agg #[.bool false, .int .u64 0, .int .u64 0]).cells 4).toList = (List.replicate 4 (⟨false, 0, 0⟩ : WI)).flatMap wcl := by kernel_rfl
theorem zeros_wi5 : (Builtin.zeroCells (Value.agg #[.bool false, .int .u64 0, .int .u64 0]).cells 5).toList = (List.replicate 5 (⟨false, 0, 0⟩ : WI)).flatMap wcl := by kernel_rfl
theorem zeros_wi6 : (Builtin.zeroCells (Value.agg #[.bool false, .int .u64 0, .int .u64 0]).cells 6).toList = (List.replicate 6 (⟨false, 0, 0⟩ : WI)).flatMap wcl := by kernel_rfl
theorem zeros_wi7 : (Builtin.zeroCells (Value.agg #[.bool false, .int .u64 0, .int .u64 0]).cells 7).toList = (List.replicate 7 (⟨false, 0, 0⟩ : WI)).flatMap wcl := by kernel_rfl
theorem zeros_wi8 : (Builtin.zeroCells (Value.agg #[.bool false, .int .u64 0, .int .u64 0]).cells 8).toList = (List.replicate 8 (⟨false, 0, 0⟩ : WI)).flatMap wcl := by kernel_rfl
theorem zeros_wi (m : Nat) (h1 : 1 ≤ m) (h8 : m ≤ 8) : (Builtin.zeroCells (Value.agg #[.bool false, .int .u64 0, .int .u64 0]).cells m).toList = (List.replicate m (⟨false, 0, 0⟩ : WI)).flatMap wcl := by
  have h : m = 1 ∨ m = 2 ∨ m = 3 ∨ m = 4 ∨ m = 5 ∨ m = 6 ∨ m = 7 ∨ m = 8 := by omega
  rcases h with rfl | rfl | rfl | rfl | rfl | rfl | rfl | rfl
  · exact zeros_wi1
  · exact zeros_wi2
  · exact zeros_wi3
  · exact zeros_wi4
  · exact zeros_wi5
  · exact zeros_wi6
  · exact zeros_wi7
  · exact zeros_wi8
theorem zeros_one (m : Nat) : ∀ u ∈ (List.replicate m (⟨false, 0, 0⟩ : WI)).flatMap wcl, u.oneCell' = true := by
  intro u hu
  obtain ⟨x, _, hx⟩ := List.mem_flatMap.1 hu
  exact wcl_one x u hx

set_option maxRecDepth 20000 in
set_option maxHeartbeats 16000000 in
theorem layoutGrows_walk (fs : List Fld) (p : Option Addr) (cap : Nat) (f : Fld) (vs : List WI) (q : Option Addr) (qc : Nat) (w : World) (hcap : fs.length ≤ cap) (hf : FP w w.heap.size p fs) (hfl : fs.length ≤ 4398046510976)
    (hpn : p = none → cap = 0) (hqc : vs.length ≤ qc) (hv : XP w w.heap.size q vs) (hfit : ∀ x ∈ vs, x.fit) (hqn : q = none → qc = 0) :
    Calls Try.prog 5 #[.slice p fs.length cap, .agg #[.string f.name, .int .i64 f.kind, .int .i64 f.count], .slice q vs.length qc] w fun r w' => r = .returned (.bool true) ∧ Below w.heap.size w w' := by
  obtain ⟨i0, hi0, hz0, hz1, hz2⟩ := info_parts' info_fld
  obtain ⟨i1, hi1, hy0, hy1, hy2⟩ := info_parts' info_wi
  have HF := hid hf; have HCP := hid hcap; have HV := hid hv; have HX := hid hfit; have HQC := hid hqc; have HFL := hid hfl; have HPN := hid hpn; have HQN := hid hqn
  clear hf hcap hv hfit hqc hfl hpn hqn
  have HFP : Hid (∀ wy, Keep (fun _ => False) w wy → FP wy wy.heap.size p fs) := hid (fun wy hk => FP.mono (FP.low HF.out (Low.keep0 hk)) hk.size)
  have HVP : Hid (∀ wy, Keep (fun _ => False) w wy → XP wy wy.heap.size q vs) := hid (fun wy hk => XP.mono (XP.low HV.out (Low.keep0 hk)) hk.size)
  obtain ⟨w0, hw0, hb0, hs0, hk0⟩ := box1 w #[.string f.name, .int .i64 f.kind, .int .i64 f.count] 41
  have HK0 := hid hk0; have HB0 := hid hb0
  clear hb0 hs0 hk0
  go_enter Try.func5, Try.ntmps5
  go_upto_region 1 with fail
  rw [← hw0]
  clear hw0
  generalize w.heap.size = fb at *
  go_wp2_with fail
  refine (awake_true _).mono ?_
  rintro r w1 ⟨rfl, hk1⟩
  have HK1 := hid (HK0.out.trans hk1)
  have HB1 := hid (hk1.get HB0.out id)
  clear hk1
  go_upto_region 3 with fail
  have c0 : w1.drew.cell? ⟨fb, 0, none⟩ = some (.string f.name) := cell_of (w := w1.drew) HB1.out (by rfl)
  have c1 : w1.drew.cell? ⟨fb, 1, none⟩ = some (.int .i64 f.kind) := cell_of (w := w1.drew) HB1.out (by rfl)
  have c2 : w1.drew.cell? ⟨fb, 2, none⟩ = some (.int .i64 f.count) := cell_of (w := w1.drew) HB1.out (by rfl)
  go_cut [7] from 18 to 25 (fun v wx => wx.ownsRow w1.heap.size 41 3 v (fs.length + 1) (fs.flatMap fcl ++ fcl f) ∧ Keep (fun _ => False) w1 wx)
  case first =>
    refine Plan.wp_region_tr (.st 1 (.st 3 (.br 0 [1, 3] (.br 2 [3] (.ac 4 [] (.ac 5 [] (.st 6 .done))) 4 [1] (.ac 2 [] (.ac 5 [] (.st 6 .done)))) 4 [1] (.ac 0 [1] (.ac 2 [] (.ac 5 [] (.st 6 .done))))))) (by as_aux_lemma => kernel_rfl) (by as_aux_lemma => kernel_rfl) ?_
    have HKW := hid ((Keep.refl (fun _ => False) w1).drew)
    have HKD := hid (HK1.out.trans HKW.out)
    have HBD : Hid (w1.drew.heap[fb]? = some (.cells #[.string f.name, .int .i64 f.kind, .int .i64 f.count] 41 (0, 0))) := hid HB1.out
    have HSD : Hid (w1.heap.size ≤ w1.drew.heap.size) := hid (Nat.le_refl _)
    generalize w1.drew = wd at *
    iterate 2 (refine Plan.tr_st rfl ?_; go_big_quiet_step (fail); refine wpQuiet_nil ?_)
    have hk2 : Keep (fun _ => False) wd (wd.alloc (.cells #[] 41)) := (Keep.refl (fun _ => False) wd).alloc _
    have d0 : (wd.alloc (.cells #[] 41)).cell? ⟨fb, 0, none⟩ = some (.string f.name) := cell_of (hk2.get HBD.out id) (by rfl)
    have d1 : (wd.alloc (.cells #[] 41)).cell? ⟨fb, 1, none⟩ = some (.int .i64 f.kind) := cell_of (hk2.get HBD.out id) (by rfl)
    have d2 : (wd.alloc (.cells #[] 41)).cell? ⟨fb, 2, none⟩ = some (.int .i64 f.count) := cell_of (hk2.get HBD.out id) (by rfl)
    clear hk2
    have hm0 : (wd.alloc (.cells #[] 41)).ownsRow wd.heap.size 41 3 (.slice (some ⟨wd.heap.size, 0, none⟩) 0 0) 0 [] := World.ownsRow_made wd #[] 0 (Nat.le_refl _) (by unfold maxLen; omega) (by simp)
    have HM0 := hid hm0
    clear hm0
    refine Plan.tr_br rfl rfl ?_ ?_
    · go_wp2
      refine Plan.trQ_mk ?_ ?_
      · repeat (refine Plan.chk_st rfl ?_ ?_; focus (go_big_quiet_step (fail); exact wpQuiet_nil rfl))
        exact Plan.chk_end
      refine Plan.tr_br rfl rfl ?_ ?_
      · as_aux_lemma =>
          have hk3 : Keep (fun _ => False) wd (wd.alloc (.cells #[] 41)) := (Keep.refl (fun _ => False) wd).alloc _
          have HK3 := hid hk3
          clear hk3
          refine wpList_append_rd rfl _ _ _ rfl wd.heap.size _ i0 _ 3 32 Try.underlying22 hi0 hz0 hz1 hz2 rfl (by decide) _ 0 [] (by rfl) HM0.out _ fs.length (fs.flatMap fcl) (by rfl) (rd_fieldsN (HFP.out _ (HKD.out.trans HK3.out)) HPN.out) (by have := HFL.out; unfold maxLen; omega) (by have := HFL.out; omega) (by simp <;> omega) ?_
          intro v' w5 hown5 hgrow5 hat5 hn5
          rw [Nat.zero_add, List.nil_append] at hown5
          obtain ⟨vq, vd, rfl⟩ := owns_val hown5
          have HO5 := hid hown5
          have HK5 := hid (HK3.out.grown hgrow5 (fun k hk => .inl (HM0.out.lt k hk).1))
          clear hown5 hgrow5 hat5 hn5
          have e0 : w5.cell? ⟨fb, 0, none⟩ = some (.string f.name) := cell_of (HK5.out.get HBD.out id) (by rfl)
          have e1 : w5.cell? ⟨fb, 1, none⟩ = some (.int .i64 f.kind) := cell_of (HK5.out.get HBD.out id) (by rfl)
          have e2 : w5.cell? ⟨fb, 2, none⟩ = some (.int .i64 f.count) := cell_of (HK5.out.get HBD.out id) (by rfl)
          go_wp2
          refine Plan.trQ_mk ?_ ?_
          · repeat (refine Plan.chk_st rfl ?_ ?_; focus (go_big_quiet_step (fail); exact wpQuiet_nil rfl))
            exact Plan.chk_end
          clear c0 c1 c2 d0 d1 d2 e0 e1 e2
          refine Plan.tr_ac rfl ?_
          go_wp2
          refine Plan.trQ_mk Plan.chk_end ?_
          refine Plan.tr_ac rfl ?_
          refine wpList_append_rd rfl _ _ _ rfl wd.heap.size _ i0 _ 3 32 Try.underlying22 hi0 hz0 hz1 hz2 rfl (by decide) _ fs.length (fs.flatMap fcl) (by rfl) (HO5.out.alloc _) _ 1 (fcl f) (by rfl) (rd_block (heap_alloc_new w5 _) (by simp [fcl]) (by simp [fcl, Value.oneCell'])) (by have := HFL.out; unfold maxLen; omega) (by have := HFL.out; omega) (by have := HK5.out.size; simp; omega) ?_
          intro v' w6 hown6 hgrow6 hat6 hn6
          obtain ⟨vr, ve, rfl⟩ := owns_val hown6
          have HO6 := hid hown6
          have HK6 := hid ((HK5.out.alloc _).grown hgrow6 (fun k hk => .inl (HO5.out.lt k hk).1))
          clear hown6 hgrow6 hat6 hn6
          go_wp2
          refine Plan.trQ_mk Plan.chk_end ?_
          refine Plan.tr_st rfl ?_; go_big_quiet_step (fail); refine wpQuiet_nil ?_
          refine Plan.tr_end ?_
          go_wp2
          go_meet
          case rel => exact ⟨owns_mono HO6.out HSD.out, HKW.out.trans HK6.out⟩
      · as_aux_lemma =>
          have hk3 : Keep (fun _ => False) wd ((wd.alloc (.cells #[] 41)).alloc (.cells #[.string f.name, .int .i64 f.kind, .int .i64 f.count] 41)) := ((Keep.refl (fun _ => False) wd).alloc _).alloc _
          have HK3 := hid hk3
          have hb4 : ((wd.alloc (.cells #[] 41)).alloc (.cells #[.string f.name, .int .i64 f.kind, .int .i64 f.count] 41)).heap[wd.heap.size + 1]? = some (.cells #[.string f.name, .int .i64 f.kind, .int .i64 f.count] 41 (0, 0)) := by
            have h := heap_alloc_new (wd.alloc (.cells #[] 41)) (.cells #[.string f.name, .int .i64 f.kind, .int .i64 f.count] 41)
            simpa using h
          have HB4 := hid hb4
          clear hk3 hb4
          go_wp2
          refine Plan.trQ_mk ?_ ?_
          · repeat (refine Plan.chk_st rfl ?_ ?_; focus (go_big_quiet_step (fail); exact wpQuiet_nil rfl))
            exact Plan.chk_end
          clear c0 c1 c2 d0 d1 d2
          refine Plan.tr_ac rfl ?_
          refine wpList_append_rd rfl _ _ _ rfl wd.heap.size _ i0 _ 3 32 Try.underlying22 hi0 hz0 hz1 hz2 rfl (by decide) _ 0 [] (by rfl) (HM0.out.alloc _) _ fs.length (fs.flatMap fcl) (by rfl) (rd_fieldsN (HFP.out _ (HKD.out.trans HK3.out)) HPN.out) (by have := HFL.out; unfold maxLen; omega) (by have := HFL.out; omega) (by simp <;> omega) ?_
          intro v' w5 hown5 hgrow5 hat5 hn5
          rw [Nat.zero_add, List.nil_append] at hown5
          obtain ⟨vq, vd, rfl⟩ := owns_val hown5
          have HO5 := hid hown5
          have HK5 := hid (HK3.out.grown hgrow5 (fun k hk => .inl (HM0.out.lt k hk).1))
          have HB5 := hid ((hgrow5.block _ (lt_of_heap HB4.out) (fun e => by simp [Value.ownBlock] at e)).trans HB4.out)
          clear hown5 hgrow5 hat5 hn5
          go_wp2
          refine Plan.trQ_mk Plan.chk_end ?_
          refine Plan.tr_ac rfl ?_
          refine wpList_append_rd rfl _ _ _ rfl wd.heap.size _ i0 _ 3 32 Try.underlying22 hi0 hz0 hz1 hz2 rfl (by decide) _ fs.length (fs.flatMap fcl) (by rfl) HO5.out _ 1 (fcl f) (by rfl) (rd_block HB5.out (by simp [fcl]) (by simp [fcl, Value.oneCell'])) (by have := HFL.out; unfold maxLen; omega) (by have := HFL.out; omega) (by have := HK5.out.size; omega) ?_
          intro v' w6 hown6 hgrow6 hat6 hn6
          obtain ⟨vr, ve, rfl⟩ := owns_val hown6
          have HO6 := hid hown6
          have HK6 := hid (HK5.out.grown hgrow6 (fun k hk => .inl (HO5.out.lt k hk).1))
          clear hown6 hgrow6 hat6 hn6
          go_wp2
          refine Plan.trQ_mk Plan.chk_end ?_
          refine Plan.tr_st rfl ?_; go_big_quiet_step (fail); refine wpQuiet_nil ?_
          refine Plan.tr_end ?_
          go_wp2
          go_meet
          case rel => exact ⟨owns_mono HO6.out HSD.out, HKW.out.trans HK6.out⟩
    · as_aux_lemma =>
        clear d0 d1 d2
        go_wp2
        refine Plan.trQ_mk ?_ ?_
        · repeat (refine Plan.chk_st rfl ?_ ?_; focus (go_big_quiet_step (fail); exact wpQuiet_nil rfl))
          exact Plan.chk_end
        clear c0 c1 c2
        refine Plan.tr_ac rfl ?_
        have hk3 : Keep (fun _ => False) wd ((wd.alloc (.cells #[.string f.name, .int .i64 f.kind, .int .i64 f.count] 41)).alloc (.cells #[] 41)) := ((Keep.refl (fun _ => False) wd).alloc _).alloc _
        have HK3 := hid hk3
        have hb4 : ((wd.alloc (.cells #[.string f.name, .int .i64 f.kind, .int .i64 f.count] 41)).alloc (.cells #[] 41)).heap[wd.heap.size]? = _ := (Go.heap_alloc_old (wd.alloc (.cells #[.string f.name, .int .i64 f.kind, .int .i64 f.count] 41)) _ (by simp)).trans (heap_alloc_new wd _)
        have HB4 := hid hb4
        have hm : (((wd.alloc (.cells #[.string f.name, .int .i64 f.kind, .int .i64 f.count] 41)).alloc (.cells #[] 41))).ownsRow wd.heap.size 41 3 (.slice (some ⟨wd.heap.size + 1, 0, none⟩) 0 0) 0 [] := by
          have h := World.ownsRow_made (base := wd.heap.size) (size := 3) (e := 41) (wd.alloc (.cells #[.string f.name, .int .i64 f.kind, .int .i64 f.count] 41)) #[] 0 (by simp) (by unfold maxLen; omega) (by simp)
          simpa using h
        have HM := hid hm
        clear hk3 hb4 hm
        go_wp2
        refine Plan.trQ_mk ?_ ?_
        · repeat (refine Plan.chk_st rfl ?_ ?_; focus (go_big_quiet_step (fail); exact wpQuiet_nil rfl))
          exact Plan.chk_end
        refine Plan.tr_ac rfl ?_
        refine wpList_append_rd rfl _ _ _ rfl wd.heap.size _ i0 _ 3 32 Try.underlying22 hi0 hz0 hz1 hz2 rfl (by decide) _ 0 [] (by rfl) HM.out _ fs.length (fs.flatMap fcl) (by rfl) (rd_fieldsN (HFP.out _ (HKD.out.trans HK3.out)) HPN.out) (by have := HFL.out; unfold maxLen; omega) (by have := HFL.out; omega) (by simp <;> omega) ?_
        intro v' w5 hown5 hgrow5 hat5 hn5
        rw [Nat.zero_add, List.nil_append] at hown5
        obtain ⟨vq, vd, rfl⟩ := owns_val hown5
        have HO5 := hid hown5
        have HK5 := hid (HK3.out.grown hgrow5 (fun k hk => .inl (HM.out.lt k hk).1))
        have HB5 := hid ((hgrow5.block _ (lt_of_heap HB4.out) (fun e => by simp [Value.ownBlock] at e)).trans HB4.out)
        clear hown5 hgrow5 hat5 hn5
        go_wp2
        refine Plan.trQ_mk Plan.chk_end ?_
        refine Plan.tr_ac rfl ?_
        refine wpList_append_rd rfl _ _ _ rfl wd.heap.size _ i0 _ 3 32 Try.underlying22 hi0 hz0 hz1 hz2 rfl (by decide) _ fs.length (fs.flatMap fcl) (by rfl) HO5.out _ 1 (fcl f) (by rfl) (rd_block HB5.out (by simp [fcl]) (by simp [fcl, Value.oneCell'])) (by have := HFL.out; unfold maxLen; omega) (by have := HFL.out; omega) (by have := HK5.out.size; omega) ?_
        intro v' w6 hown6 hgrow6 hat6 hn6
        obtain ⟨vr, ve, rfl⟩ := owns_val hown6
        have HO6 := hid hown6
        have HK6 := hid (HK5.out.grown hgrow6 (fun k hk => .inl (HO5.out.lt k hk).1))
        clear hown6 hgrow6 hat6 hn6
        go_wp2
        refine Plan.trQ_mk Plan.chk_end ?_
        refine Plan.tr_st rfl ?_; go_big_quiet_step (fail); refine wpQuiet_nil ?_
        refine Plan.tr_end ?_
        go_wp2
        go_meet
        case rel => exact ⟨owns_mono HO6.out HSD.out, HKW.out.trans HK6.out⟩
  case rest =>
  obtain ⟨hown7, hk7⟩ := hcut
  obtain ⟨vq, vd, rfl⟩ := owns_val hown7
  have hlen : fs.length + 1 = (fs ++ [f]).length := by rw [List.length_append]; rfl
  have hcl : fs.flatMap fcl ++ fcl f = (fs ++ [f]).flatMap fcl := by rw [List.flatMap_append]; simp
  rw [hcl, hlen] at hown7
  rw [hlen]
  have HK7 := hid (HK1.out.trans hk7)
  have HB7 := hid (hk7.get HB1.out id)
  have HOM := hid (fun wy (h : Keep (fun _ => False) wc wy) => fp_own rfl (owns_keep (w' := wy) hown7 (fun i hi => h.block i (hown7.lt i hi).2 id)))
  have HCM := hid (owns_cap hown7)
  clear hown7 hk7 hcl c0 c1 c2
  have HML : Hid ((fs ++ [f]).length = fs.length + 1) := hid hlen.symm
  have HFIT := hid (fun h => grow_fit (fs := fs) (f := f) (vs := vs) h)
  have HSAME := hid (fun us h => grow_same (fs := fs) (f := f) (vs := vs) (us := us) h)
  have HSIZE := hid (pSize_snoc (fs := fs) (f := f))
  have HRUN := hid (pRun_snoc fs f)
  have HSUM := hid (sumN_snoc fs f)
  have HOKF : Hid ((∀ x ∈ fs ++ [f], okF x) → okF f) := hid (fun h => h f (by simp))
  clear hlen
  generalize fs ++ [f] = ms at *
  go_wp2_with fail
  refine (gr_of _ _ _ _ _ _ _).mono ?_
  rintro r w_ ⟨rfl, rfl⟩
  cases hg1 : (decide (12 < fs.length) || decide (100 < vs.length))
  rotate_left
  · go_wp2
    go_ret
    exact ⟨rfl, HK7.out.below⟩
  rw [Bool.or_eq_false_iff] at hg1
  have hlv : vs.length ≤ 100 := by have := of_decide_eq_false hg1.2; omega
  clear hg1
  have HLV := hid hlv
  go_wp2_with fail
  refine (layout_check fs p cap _ (HFP.out _ HK7.out)).mono ?_
  rintro r w2 ⟨rfl, hk2⟩
  have HK2 := hid (HK7.out.trans hk2)
  have HKC2 := hid hk2
  clear hk2
  by_cases hl0 : layC fs = 0
  rotate_left
  · obtain ⟨z, hz⟩ : ∃ z, layC fs = z := ⟨_, rfl⟩
    rw [hz] at hl0 ⊢
    have g1 : ((z : Int) != 0) = true := by rw [bne, beq_eq_false_iff_ne.2 (show (z : Int) ≠ 0 by omega)]; rfl
    have g2 : (z != 0) = true := by rw [bne, beq_eq_false_iff_ne.2 hl0]; rfl
    clear hz
    go_wp2
    go_ret
    exact ⟨rfl, HK2.out.below⟩
  have HL0 := hid hl0
  rw [hl0]
  clear hl0
  go_wp2_with fail
  refine (layout_check ms vq vd _ (HOM.out _ HKC2.out)).mono ?_
  rintro r w3 ⟨rfl, hk3⟩
  have HK3 := hid (HK2.out.trans hk3)
  have HKC3 := hid (HKC2.out.trans hk3)
  clear hk3
  by_cases hm0 : layC ms = 0
  rotate_left
  · obtain ⟨z, hz⟩ : ∃ z, layC ms = z := ⟨_, rfl⟩
    rw [hz] at hm0 ⊢
    have g1 : ((z : Int) != 0) = true := by rw [bne, beq_eq_false_iff_ne.2 (show (z : Int) ≠ 0 by omega)]; rfl
    have g2 : (z != 0) = true := by rw [bne, beq_eq_false_iff_ne.2 hm0]; rfl
    clear hz
    go_wp2
    go_ret
    exact ⟨rfl, HK3.out.below⟩
  have HM0 := hid hm0
  rw [hm0]
  clear hm0
  have HOK := hid (layC_zero HL0.out)
  have HOKM := hid (layC_zero HM0.out)
  have hfo := HOKF.out HOKM.out.2
  obtain ⟨m, hm⟩ : ∃ m : Nat, f.count = (m : Int) := ⟨f.count.toNat, by have := hfo.2.1; omega⟩
  have hm8 : 1 ≤ m ∧ m ≤ 8 := by have h1 := hfo.2.1; have h2 := hfo.2.2; omega
  have htn : f.count.toNat = m := by omega
  rw [htn] at HFIT HSUM
  have HM8 := hid hm8
  have hb7 := HB7.out
  rw [hm] at hb7
  have HBF : Hid (∀ wy, Keep (fun _ => False) wc wy → wy.cell? ⟨fb, 2, none⟩ = some (.int .i64 (m : Int))) := hid (fun wy h => cell_of (h.get hb7 id) (by rfl))
  clear hm hm8 htn hb7 hfo
  go_wp2_with fail
  refine (lay_of fs p cap _ (HFP.out _ HK3.out)).mono ?_
  rintro r w4 ⟨pa, pc, rfl, hown4, hk4⟩
  have hsz : ofSize fs = pSize fs := by unfold ofSize; rw [if_pos HL0.out]
  have hat : ofAt fs = (pRun fs).2.2 := by unfold ofAt; rw [if_pos HL0.out]
  have hal : (pRun fs).2.2.length = fs.length := by have := (at_of fs fs.length (Nat.le_refl _)).1; rwa [List.take_length] at this
  rw [hat, hal] at hown4
  rw [hsz, hat, hal, HL0.out]
  obtain ⟨w5, hw5, hb5, hs5, hk5⟩ := box1 w4 #[.int .i64 (pSize fs : Int), .slice pa fs.length pc] 45
  have HK5 := hid ((HKC3.out.trans hk4).trans hk5)
  have HB5 := hid hb5
  have HO5 := hid (owns_keep (w' := w5) hown4 (fun i hi => hk5.block i (hown4.lt i hi).2 id))
  clear hown4 hk4 hb5 hs5 hk5 hsz hat hal
  go_upto_region 7 with fail
  rw [← hw5]
  clear hw5
  generalize w4.heap.size = ab at *
  go_wp2_with fail
  refine (lay_of ms vq vd _ (HOM.out _ HK5.out)).mono ?_
  rintro r w6 ⟨ma, mc, rfl, hown6, hk6⟩
  have hsz : ofSize ms = pSize ms := by unfold ofSize; rw [if_pos HM0.out]
  have hat : ofAt ms = (pRun ms).2.2 := by unfold ofAt; rw [if_pos HM0.out]
  have hal : (pRun ms).2.2.length = fs.length + 1 := by rw [← HML.out]; have := (at_of ms ms.length (Nat.le_refl _)).1; rwa [List.take_length] at this
  rw [hat, hal] at hown6
  rw [hsz, hat, hal, HM0.out]
  obtain ⟨w7, hw7, hb7, hs7, hk7⟩ := box1 w6 #[.int .i64 (pSize ms : Int), .slice ma (fs.length + 1) mc] 45
  have hk57 := hk6.trans hk7
  have HK8 := hid (HK5.out.trans hk57)
  have HB8 := hid hb7
  have HA8 := hid (hk57.get HB5.out id)
  have HO8 := hid (owns_keep (w' := w7) HO5.out (fun i hi => hk57.block i (HO5.out.lt i hi).2 id))
  have HP8 := hid (owns_keep (w' := w7) hown6 (fun i hi => hk7.block i (hown6.lt i hi).2 id))
  clear hown6 hk6 hb7 hs7 hk7 hk57 hsz hat hal
  go_upto_region 8 with fail
  rw [← hw7]
  clear hw7
  generalize w6.heap.size = mb at *
  have HKW : Hid (∀ wy, Keep (fun _ => False) w7 wy → Keep (fun _ => False) wc wy) := hid (fun wy h => HK8.out.trans h)
  have HAC : Hid (∀ wy, Keep (fun _ => False) w7 wy → wy.cell? ⟨ab, 0, none⟩ = some (.int .i64 (pSize fs : Int)) ∧ wy.cell? ⟨ab, 1, none⟩ = some (.slice pa fs.length pc)) := hid (fun wy hk =>
    ⟨cell_of (hk.get HA8.out id) (by rfl), cell_of (hk.get HA8.out id) (by rfl)⟩)
  have HBC : Hid (∀ wy, Keep (fun _ => False) w7 wy → wy.cell? ⟨mb, 0, none⟩ = some (.int .i64 (pSize ms : Int)) ∧ wy.cell? ⟨mb, 1, none⟩ = some (.slice ma (fs.length + 1) mc)) := hid (fun wy hk =>
    ⟨cell_of (hk.get HB8.out id) (by rfl), cell_of (hk.get HB8.out id) (by rfl)⟩)
  have a0 := (HAC.out _ (Keep.refl _ w7).drew).1
  have a1 := (HAC.out _ (Keep.refl _ w7).drew).2
  have b0 := (HBC.out _ (Keep.refl _ w7).drew).1
  have b1 := (HBC.out _ (Keep.refl _ w7).drew).2
  have f2 := HBF.out _ (HKW.out _ (Keep.refl _ w7).drew)
  have hl8 := HOK.out.1
  have hs1 := HSIZE.out HOKM.out.2
  have HSUMB := hid (sumN_le ms HOKM.out.2)
  have HML8 := hid HOKM.out.1
  have hel : sumN fs + m ≤ 64 := by have h1 := HSUMB.out; have h2 := HML8.out; rw [HSUM.out] at h1; omega
  have HSM := HSUM.out
  have HLE := hid (fun wy (h : Keep (fun _ => False) w7 wy) => lay_elems fs p cap wy HL0.out HCP.out (HFP.out _ (HK7.out.trans (HKW.out _ h))))
  have HLM := hid (fun wy (h : Keep (fun _ => False) w7 wy) => lay_elems ms vq vd wy HM0.out HCM.out (HOM.out _ (HKW.out _ h)))
  have HSN : Hid (sumN ms = sumN fs + m) := HSUM
  have HEL : Hid (sumN fs + m ≤ 64) := hid hel
  rw [HSN.out] at HLM
  clear hel HSM
  generalize sumN fs = n1 at *
  generalize hS1 : pSize fs = s1 at *
  generalize hS2 : pSize ms = s2 at *
  have HS12 := hid hs1
  have g1 : decide ((s2 : Int) < (s1 : Int)) = false := decide_eq_false (by omega)
  have g2 : decide (s2 < s1) = false := decide_eq_false (by omega)
  have g3 : (((fs.length : Int) + 1) != ((fs.length : Int) + 1)) = false := by simp
  have hn64 : n1 ≤ 64 := by have := HEL.out; omega
  have hm8 : m ≤ 8 := HM8.out.2
  have HPS1 := hid hS1; have HPS2 := hid hS2
  clear hS1 hS2
  go_wp2_with fail
  refine Plan.wp_region_pl [(false, 0, []), (false, 1, []), (false, 2, []), (false, 3, []), (false, 4, []), (false, 5, []), (false, 6, []), (false, 7, []), (false, 8, []), (false, 9, []), (false, 10, []), (false, 11, []), (false, 12, []), (false, 13, []), (false, 14, []), (false, 15, []), (false, 16, []), (false, 17, []), (false, 18, []), (false, 19, []), (false, 20, []), (false, 22, []), (false, 24, []), (false, 25, []), (true, 21, [25, 24, 22]), (true, 23, [25, 24]), (false, 26, []), (false, 27, []), (false, 28, [])] (by as_aux_lemma => kernel_rfl) (by as_aux_lemma => kernel_rfl) ?_
  iterate 24 (refine Plan.pl_st rfl ?_; go_big_quiet_step (fail); refine wpQuiet_nil ?_)
  refine Plan.pl_ac rfl ?_
  go_wp2_with fail
  refine (HLM.out _ (Keep.refl _ w7).drew).mono ?_
  rintro r w8 ⟨rfl, hk8⟩
  have HK9 := hid ((Keep.refl (fun _ => False) w7).drew.trans hk8)
  clear hk8 f2 a0 a1 b0 b1
  have f2 := HBF.out _ (HKW.out _ HK9.out)
  go_wp2
  refine Plan.plQ_mk ?_ ?_
  · iterate 3 (refine Plan.chk_st rfl ?_ ?_; focus (go_big_quiet_step (fail); exact wpQuiet_nil rfl))
    exact Plan.chk_end
  refine Plan.pl_ac rfl ?_
  go_wp2_with fail
  refine (HLE.out _ HK9.out).mono ?_
  rintro r w9 ⟨rfl, hk9⟩
  have HK10 := hid (HK9.out.trans hk9)
  clear hk9 f2
  have f2 := HBF.out _ (HKW.out _ HK10.out)
  go_wp2
  refine Plan.plQ_mk ?_ ?_
  · iterate 2 (refine Plan.chk_st rfl ?_ ?_; focus (go_big_quiet_step (fail); exact wpQuiet_nil rfl))
    exact Plan.chk_end
  have g4 : (((n1 : Int) + (m : Int)) != ((n1 : Int) + (m : Int))) = false := by simp
  iterate 3 (refine Plan.pl_st rfl ?_; go_big_quiet_step (fail); refine wpQuiet_nil ?_)
  refine Plan.pl_end ?_
  clear g1 g2 g3 f2
  go_wp2_with fail
  have HN8 := hid hl8
  clear hn64 hm8 g4 hs1 HLE HLM
  go_loopw [12, 13] (fun e i wr => ∃ k : Nat, k ≤ fs.length ∧ i = iV k ∧ e = iV (pRun (fs.take k)).1 ∧ Keep (fun _ => False) w7 wr) (fun _ i _ => fs.length + 1 - (RowKit.intOf i).toNat)
  case atStart => exact ⟨0, Nat.zero_le _, rfl, rfl, HK10.out⟩
  case round =>
    obtain ⟨k, hk, rfl, rfl, hkr⟩ := hrel
    have HKR := hid hkr
    clear hkr
    by_cases hlt : k < fs.length
    · obtain ⟨g, hgk⟩ : ∃ g, fs[k]? = some g := ⟨fs[k], by simp [hlt]⟩
      have hof := HOK.out.2 g (List.mem_of_getElem? hgk)
      have hka := HKR.out.drew
      obtain ⟨lb, off, rfl, hb, c0, c1, c2⟩ := FP.at (HFP.out _ (HK7.out.trans (HKW.out _ hka))) hgk
      have hin : (0 : Int) ≤ (k : Int) ∧ (k : Int) < (fs.length : Int) := ⟨by omega, by omega⟩
      have hin2 : (0 : Int) ≤ (k : Int) ∧ (k : Int) < (fs.length : Int) + 1 := ⟨by omega, by omega⟩
      have hat : ((pRun fs).2.2.map iV)[k]? = some (iV (upN (pRun (fs.take k)).1 (szN g.kind))) := by
        have h := (at_of fs fs.length (Nat.le_refl _)).2 k g hlt hgk
        rw [List.take_length] at h
        rw [List.getElem?_map, h]; rfl
      have hbt : ((pRun ms).2.2.map iV)[k]? = some (iV (upN (pRun (fs.take k)).1 (szN g.kind))) := by
        rw [HRUN.out]
        show (((pRun fs).2.2 ++ [_]).map iV)[k]? = _
        rw [List.map_append, List.getElem?_append_left (by have := (at_of fs fs.length (Nat.le_refl _)).1; rw [List.take_length] at this; rw [List.length_map]; omega)]
        exact hat
      have hpl := (pRun_le HOK.out.2 k hk).1
      have hup := up_le (pRun (fs.take k)).1 (szN g.kind) hof.1
      have HNX : Hid ((pRun (fs.take (k + 1))).1 = upN (pRun (fs.take k)).1 (szN g.kind) + szN g.kind * g.count.toNat) := hid (by rw [pRun_next hgk]; rfl)
      obtain ⟨ga, rfl⟩ := owns_some HO8.out (by omega)
      obtain ⟨gb, rfl⟩ := owns_some HP8.out (by omega)
      have hca : wr.drew.cell? ⟨ga, k, none⟩ = some (iV (upN (pRun (fs.take k)).1 (szN g.kind))) := by
        have := owns_cell (k := k) (owns_keep (w' := wr.drew) HO8.out (fun j hj => hka.block j (HO8.out.lt j hj).2 id)) hlt
        rw [this]; exact hat
      have hcb : wr.drew.cell? ⟨gb, k, none⟩ = some (iV (upN (pRun (fs.take k)).1 (szN g.kind))) := by
        have := owns_cell (k := k) (owns_keep (w' := wr.drew) HP8.out (fun j hj => hka.block j (HP8.out.lt j hj).2 id)) (by omega)
        rw [this]; exact hbt
      have HGK := hid hgk
      have HCA : Hid (∀ wy, Keep (fun _ => False) w7 wy → wy.cell? ⟨ga, k, none⟩ = some (iV (upN (pRun (fs.take k)).1 (szN g.kind)))) := hid (fun wy h => by
        have := owns_cell (k := k) (owns_keep (w' := wy) HO8.out (fun j hj => h.block j (HO8.out.lt j hj).2 id)) hlt
        rw [this]; exact hat)
      have a1 := (HAC.out _ hka).2
      have b1 := (HBC.out _ hka).2
      have HS8 := hid (sz_le g.kind)
      have HSC := hid (sz_cast g.kind)
      have hs8z := sz_le g.kind
      have hak : upN (pRun (fs.take k)).1 (szN g.kind) ≤ 700 := by omega
      clear hgk hat hbt hb c0 hup hpl hs8z
      generalize hate : upN (pRun (fs.take k)).1 (szN g.kind) = ak at *
      generalize (pRun (fs.take k)).1 = ek at *
      obtain ⟨nm, kd, ct⟩ := g
      obtain ⟨cn, rfl⟩ := Int.eq_ofNat_of_zero_le (a := ct) (by have := hof.2; simp only at this; omega)
      have hof' : 1 ≤ szN kd ∧ (1 : Int) ≤ (cn : Int) ∧ (cn : Int) ≤ 8 := hof
      clear hof hate
      simp only [Int.toNat_natCast] at c1 c2 HNX HS8 HSC
      have HCN : Hid (cn ≤ 8) := hid (by omega)
      clear hof'
      have g1 : ((ak : Int) != (ak : Int)) = false := by simp
      have g2 : (ak != ak) = false := by simp
      go_wp2_with fail
      refine Plan.wp_region_pl [(false, 0, []), (false, 1, []), (false, 2, []), (false, 3, []), (false, 4, []), (false, 5, []), (false, 6, []), (false, 7, []), (false, 8, []), (false, 9, []), (false, 10, [])] (by as_aux_lemma => kernel_rfl) (by as_aux_lemma => kernel_rfl) ?_
      iterate 11 (refine Plan.pl_st rfl ?_; go_big_quiet_step (fail); refine wpQuiet_nil ?_)
      refine Plan.pl_end ?_
      clear g1 g2
      go_wp2_with fail
      refine Plan.wp_region_pl [(false, 0, []), (false, 1, []), (false, 2, []), (false, 3, []), (false, 4, []), (false, 5, []), (false, 6, []), (false, 7, []), (false, 8, []), (false, 9, []), (false, 11, []), (false, 12, []), (false, 13, []), (false, 14, []), (false, 15, []), (true, 10, [15, 14, 13, 12, 11, 4, 3, 2, 1, 0]), (false, 16, []), (false, 17, []), (false, 18, [])] (by as_aux_lemma => kernel_rfl) (by as_aux_lemma => kernel_rfl) ?_
      iterate 15 (refine Plan.pl_st rfl ?_; go_big_quiet_step (fail); refine wpQuiet_nil ?_)
      refine Plan.pl_ac rfl ?_
      go_wp2_with fail
      refine (size_of kd _).mono ?_
      rintro r wx ⟨rfl, hkx⟩
      have hkb := hka.drew.trans hkx
      have HKB := hid hkb
      obtain ⟨lb', off', e', hb', d1, d2, d3⟩ := FP.at (HFP.out _ (HK7.out.trans (HKW.out _ hkb))) HGK.out
      injection e' with e'
      injection e' with e1 e2
      subst e1; subst e2
      simp only at d3
      clear c1 c2 hca hcb a1 b1 d1 d2 hb'
      have hca := HCA.out _ hkb
      have a1 := (HAC.out _ hkb).2
      have c2 := d3
      clear d3 hkx hkb
      rw [HSC.out]
      go_wp2
      refine Plan.plQ_mk ?_ ?_
      · iterate 10 (refine Plan.chk_st rfl ?_ ?_; focus (go_big_quiet_step (fail); exact wpQuiet_nil rfl))
        exact Plan.chk_end
      have hmul : szN kd * cn ≤ 64 := mul_le8 (by have := HS8.out; omega) (by have := HCN.out; omega)
      have hcast : ((szN kd : Int) * (cn : Int)) = ((szN kd * cn : Nat) : Int) := (Int.natCast_mul _ _).symm
      generalize szN kd * cn = mm at *
      iterate 3 (refine Plan.pl_st rfl ?_; go_big_quiet_step (fail); refine wpQuiet_nil ?_)
      refine Plan.pl_end ?_
      clear c2 a1 hca
      go_wp2
      go_roundw
      case rel => exact ⟨k + 1, by omega, by go_num, by rw [HNX.out]; go_num, HKB.out⟩
      case measure => simp [RowKit.intOf]; omega
    · obtain rfl : k = fs.length := by omega
      rw [List.take_length]
      have HK11 := hid (HK7.out.trans (HKW.out _ HKR.out))
      have g0 : decide ((fs.length : Int) < (fs.length : Int)) = false := decide_eq_false (by omega)
      have g00 : decide (fs.length < fs.length) = false := decide_eq_false (by omega)
      go_wp2_with fail
      clear g0 g00
      refine (lay_pack fs p cap vs q qc _ HCP.out HQC.out (by have := HLV.out; omega) HX.out (HFP.out _ HK11.out) (HVP.out _ HK11.out)).mono ?_
      rintro r w12 ⟨rfl, hk12⟩
      have HKP := hid (HKR.out.trans hk12)
      have HK12 := hid (HK11.out.trans hk12)
      clear hk12
      by_cases hf0 : fitC fs vs = 0
      rotate_left
      · obtain ⟨z, hz⟩ : ∃ z, fitC fs vs = z := ⟨_, rfl⟩
        rw [hz] at hf0 ⊢
        have g1 : ((z : Int) != 0) = true := by rw [bne, beq_eq_false_iff_ne.2 (show (z : Int) ≠ 0 by omega)]; rfl
        have g2 : (z != 0) = true := by rw [bne, beq_eq_false_iff_ne.2 hf0]; rfl
        clear hz
        go_wp2
        go_ret
        exact ⟨rfl, HK12.out.below⟩
      have hfit2 := HFIT.out hf0 HM0.out
      have hsame := HSAME.out _ hf0 hfit2
      have HL2 : Hid (((pRun fs).1 : Int) ≤ ((packS fs vs).size : Int) ∧ ((pRun fs).1 : Int) ≤ ((packS ms (vs ++ List.replicate m ⟨false, 0, 0⟩)).size : Int)) := hid (by
        have h1 : (packS fs vs).size = pSize fs := by rw [packS_ok hf0, ← packL_len hf0]; exact List.size_toArray ..
        have h2 : (packS ms (vs ++ List.replicate m ⟨false, 0, 0⟩)).size = pSize ms := by rw [packS_ok hfit2, ← packL_len hfit2]; exact List.size_toArray ..
        have h3 := (pRun_le HOK.out.2 fs.length (Nat.le_refl _)).2.1
        rw [List.take_length] at h3
        have h4 : (pRun fs).1 ≤ pSize fs := le_upN _ _ h3
        have h5 := HSIZE.out HOKM.out.2
        have h6 := HPS1.out; have h7 := HPS2.out
        rw [h1, h2]
        omega)
      have HSM2 := hid hsame
      rw [hf0]
      clear hf0 hsame
      have HPK := hid (fun (q' : Option Addr) (c' : Nat) (wy : World) (h : Keep (fun _ => False) wc wy) (hc : (vs ++ List.replicate m (⟨false, 0, 0⟩ : WI)).length ≤ c') (hx : XP wy wy.heap.size q' (vs ++ List.replicate m (⟨false, 0, 0⟩ : WI))) =>
        lay_pack ms vq vd (vs ++ List.replicate m ⟨false, 0, 0⟩) q' c' wy HCM.out hc (by rw [List.length_append, List.length_replicate]; have := HLV.out; have := HM8.out; omega) (fun x hx => by
          rcases List.mem_append.1 hx with h | h
          · exact HX.out x h
          · rw [(List.mem_replicate.1 h).2]; exact ⟨by show (0 : Nat) < 18446744073709551616; omega, by show (0 : Nat) < 18446744073709551616; omega⟩) (HOM.out _ h) hx)
      rw [hfit2] at HPK
      clear hfit2
      have HUL : Hid ((vs ++ List.replicate m (⟨false, 0, 0⟩ : WI)).length = vs.length + m) := hid (by rw [List.length_append, List.length_replicate])
      have HUC : Hid (vs.flatMap wcl ++ (List.replicate m (⟨false, 0, 0⟩ : WI)).flatMap wcl = (vs ++ List.replicate m (⟨false, 0, 0⟩ : WI)).flatMap wcl) := hid (by rw [List.flatMap_append])
      generalize vs ++ List.replicate m (⟨false, 0, 0⟩ : WI) = us at *
      generalize packS fs vs = ps at *
      generalize packS ms us = pt at *
      generalize (pRun fs).1 = en at *
      have f2 := HBF.out _ (HKW.out _ HKP.out.drew)
      go_wp2_with fail
      refine Plan.wp_region_pl [(false, 0, []), (false, 2, []), (false, 4, []), (false, 5, []), (true, 1, [5, 4, 2, 0]), (true, 3, [5, 4, 0]), (true, 6, [0]), (true, 7, []), (false, 8, []), (false, 9, []), (false, 10, []), (false, 11, []), (false, 12, [])] (by as_aux_lemma => kernel_rfl) (by as_aux_lemma => kernel_rfl) ?_
      iterate 4 (refine Plan.pl_st rfl ?_; go_big_quiet_step (fail); refine wpQuiet_nil ?_)
      have HKD := hid HKP.out.drew
      have HKE := hid HK12.out.drew
      have HSD : Hid (w12.heap.size ≤ w12.drew.heap.size) := hid (Nat.le_refl _)
      generalize w12.drew = wd at *
      have hk13 : Keep (fun _ => False) wd (wd.alloc (.cells #[] 57)) := (Keep.refl (fun _ => False) wd).alloc _
      have f3 := HBF.out _ (HKW.out _ (HKD.out.trans hk13))
      have hm13 : (wd.alloc (.cells #[] 57)).ownsRow wd.heap.size 57 3 (.slice (some ⟨wd.heap.size, 0, none⟩) 0 0) 0 [] := World.ownsRow_made wd #[] 0 (Nat.le_refl _) (by unfold maxLen; omega) (by simp)
      have HM13 := hid hm13
      have HK13 := hid hk13
      clear hk13 hm13
      refine Plan.pl_ac rfl ?_
      go_wp2
      refine Plan.plQ_mk ?_ ?_
      · iterate 4 (refine Plan.chk_st rfl ?_ ?_; focus (go_big_quiet_step (fail); exact wpQuiet_nil rfl))
        exact Plan.chk_end
      clear f2
      refine Plan.pl_ac rfl ?_
      refine wpList_append_rd rfl _ _ _ rfl wd.heap.size _ i1 _ 3 24 Try.underlying23 hi1 hy0 hy1 hy2 rfl (by decide) _ 0 [] (by rfl) HM13.out _ vs.length (vs.flatMap wcl) (by rfl) (rd_widesN (HVP.out _ (HKE.out.trans HK13.out)) HQN.out) (by have := HLV.out; unfold maxLen; omega) (by have := HLV.out; omega) (by simp) ?_
      intro v' w13 hown5 hgrow5 hat5 hn5
      rw [Nat.zero_add, List.nil_append] at hown5
      have hk14 := HK13.out.grown hgrow5 (fun k hk => .inl (HM13.out.lt k hk).1)
      have HK14 := hid hk14
      have HO14 := hid hown5
      have f4 := HBF.out _ (HKW.out _ (HKD.out.trans hk14))
      obtain ⟨gv, gd, rfl⟩ : ∃ gv gd, v' = .slice (some ⟨gv, 0, none⟩) vs.length gd := by
        obtain ⟨a, c, rfl⟩ := owns_val hown5
        rcases owns_block hown5 with ⟨e1, _, _⟩ | ⟨g', c', cur, e1, _⟩
        · have h2 := hn5.1 e1
          cases h2.1
        · injection e1 with e1 _ e2
          subst e1
          exact ⟨_, _, rfl⟩
      clear hown5 hgrow5 hat5 hn5 hk14 f3
      go_wp2
      refine Plan.plQ_mk ?_ ?_
      · iterate 3 (refine Plan.chk_st rfl ?_ ?_; focus (go_big_quiet_step (fail); exact wpQuiet_nil rfl))
        exact Plan.chk_end
      refine Plan.pl_ac rfl ?_
      refine wpList_append_zeros rfl _ _ _ _ rfl wd.heap.size _ .i64 i1 _ 3 24 Try.underlying23 Try.underlying3 hi1 hy0 hy1 hy2 rfl (by decide) gv vs.length gd (vs.flatMap wcl) (by rfl) HO14.out m (by rfl) (by have := HM8.out; omega) (by have := HM8.out; omega) (by have := HM8.out; omega) (by rw [zeros_wi m HM8.out.1 HM8.out.2]; exact zeros_one m) (by have := HLV.out; have := HM8.out; unfold maxLen; omega) (by have := HLV.out; have := HM8.out; omega) (HK14.out.size) ?_
      intro v' w14 hown6 hgrow6
      rw [zeros_wi m HM8.out.1 HM8.out.2, HUC.out, ← HUL.out] at hown6
      have hk15 := HK14.out.grown hgrow6 (fun k hk => .inl (HO14.out.lt k (by simpa [Value.ownBlock] using hk)).1)
      obtain ⟨ua, uc, rfl⟩ := owns_val hown6
      have HK15 := hid hk15
      have HO15 := hid hown6
      clear hown6 hgrow6 hk15 f4
      go_wp2
      refine Plan.plQ_mk ?_ ?_
      · iterate 1 (refine Plan.chk_st rfl ?_ ?_; focus (go_big_quiet_step (fail); exact wpQuiet_nil rfl))
        exact Plan.chk_end
      refine Plan.pl_ac rfl ?_
      go_wp2_with fail
      refine (HPK.out ua uc _ (HKW.out _ (HKD.out.trans HK15.out)) (owns_cap HO15.out) (xp_own rfl HO15.out)).mono ?_
      rintro r w15 ⟨rfl, hk16⟩
      have HK16 := hid ((HKE.out.trans HK15.out).trans hk16)
      clear hk16
      go_wp2
      refine Plan.plQ_mk Plan.chk_end ?_
      iterate 5 (refine Plan.pl_st rfl ?_; go_big_quiet_step (fail); refine wpQuiet_nil ?_)
      refine Plan.pl_end ?_
      go_wp2_with fail
      refine Plan.wp_region_pl [(false, 0, []), (false, 1, []), (false, 2, []), (false, 3, []), (false, 4, []), (false, 5, []), (false, 6, []), (false, 7, []), (false, 8, []), (false, 9, []), (false, 10, []), (false, 11, [])] (by as_aux_lemma => kernel_rfl) (by as_aux_lemma => kernel_rfl) ?_
      have g1 : (0 : Int) ≤ (0 : Int) ∧ (0 : Int) ≤ (en : Int) ∧ (en : Int) ≤ (ps.size : Int) := ⟨by omega, by omega, HL2.out.1⟩
      have g2 : (0 : Int) ≤ (0 : Int) ∧ (0 : Int) ≤ (en : Int) ∧ (en : Int) ≤ (pt.size : Int) := ⟨by omega, by omega, HL2.out.2⟩
      have g3 : ((ps.extract 0 en).toList == (pt.extract 0 en).toList) = true := by rw [HSM2.out]; simp
      iterate 12 (refine Plan.pl_st rfl ?_; go_big_quiet_step (fail); refine wpQuiet_nil ?_)
      refine Plan.pl_end ?_
      go_wp2
      go_ret
      exact ⟨rfl, HK16.out.drew.below⟩
end Go.Proofs.Ytkgkcnmnfhehfaa

namespace Go.Proofs.Ytkgkcnmnfhehfaa
open Go.ChangeShapes Go.WideShapes Go.ChangeAt Go.RowKit Go.Proofs.Heap Go.Proofs.Sch

section
variable {H : Type} {enc : TypeId × Value → H} {W : World}

theorem addr_add (b off i : Nat) : (⟨b, off, none⟩ : Addr).add i = ⟨b, off + i, none⟩ := by unfold Addr.add; split <;> simp_all

/-- A row of things that a law is handed. -/
theorem open_row {α : Type} {z : Nat} {t e : TypeId} (ht : Try.prog.underlying t = some (.slice e)) (hsz : Try.prog.cellsOf e = z) (at_ : World → Nat → Nat → α → Prop)
    (hel : ∀ (a : Addr) (n : Nat) (cs : List Value) (D : DataW H × List MemPlace), W.cells? 0 a z = some cs → DataW.trod enc Try.prog W 0 (fun _ => true) true n e cs = some D → a.spot = none ∧ a.block < W.heap.size ∧ ∃ x : α, at_ W a.block a.off x)
    {fuel : Nat} {cs : List Value} {x : DataW H × List MemPlace} (h : DataW.trod enc Try.prog W 0 (fun _ => true) true fuel t cs = some x) :
    ∃ (p : Option Addr) (c : Nat) (l : List α), cs = [.slice p l.length c] ∧ l.length ≤ c ∧ RowP z at_ W W.heap.size p l := by
  rcases Go.Deep.open_slice ht h with ⟨hcs, _⟩ | ⟨a, len, cap, m, n, D, Pl, hcs, _, hl, hm, hz', _, hcell⟩
  · exact ⟨none, 0, [], hcs, Nat.le_refl _, .inl rfl⟩
  · have hmc : m = cap := by simpa using hz'
    subst hmc
    rw [hsz] at hcell
    by_cases hl0 : len = 0
    · subst hl0
      exact ⟨some a, m, [], hcs, Nat.zero_le _, .inl rfl⟩
    · obtain ⟨b, off, spot⟩ := a
      have hblk : spot = none ∧ b < W.heap.size := by
        obtain ⟨cs', hc1, hc2⟩ := hcell 0 (by omega)
        obtain ⟨h1, h2, _⟩ := hel _ _ _ _ hc1 hc2
        refine ⟨?_, by simpa [Addr.add] using h2⟩
        simpa [Addr.add] using h1
      obtain ⟨rfl, hb⟩ := hblk
      have key : ∀ k, k ≤ len → ∃ l : List α, l.length = k ∧ ∀ i y, l[i]? = some y → at_ W b (off + i * z) y := by
        intro k
        induction k with
        | zero => exact fun _ => ⟨[], rfl, fun i y hy => by simp at hy⟩
        | succ k ih =>
          intro hk
          obtain ⟨l, hll, hla⟩ := ih (by omega)
          obtain ⟨cs', hc1, hc2⟩ := hcell k (by omega)
          obtain ⟨_, _, y, hy⟩ := hel _ _ _ _ hc1 hc2
          rw [addr_add] at hy
          refine ⟨l ++ [y], by simp [hll], fun i u hu => ?_⟩
          by_cases hik : i < k
          · rw [List.getElem?_append_left (by omega)] at hu
            exact hla i u hu
          · rw [List.getElem?_append_right (by omega)] at hu
            have : i = k := by
              have := (List.getElem?_eq_some_iff.1 hu).1
              simp at this
              omega
            subst this
            simp [hll] at hu
            subst hu
            exact hy
      obtain ⟨l, hll, hla⟩ := key len (Nat.le_refl _)
      subst hll
      exact ⟨_, m, l, hcs, hl, .inr ⟨b, off, rfl, hb, hla⟩⟩

theorem spot_of {a : Addr} {v : Value} (h : W.cell? (a.add 0) = some v) : a.spot = none ∧ a.block < W.heap.size := by
  obtain ⟨b, off, spot⟩ := a
  have h1 : spot = none := by simpa [Addr.add] using World.cell?_spot h
  subst h1
  rw [addr_add] at h
  exact ⟨rfl, World.block_lt_of_cell? W _ h⟩

set_option maxRecDepth 100000 in
theorem open_field (a : Addr) (n : Nat) (cs : List Value) (D : DataW H × List MemPlace) (hc : W.cells? 0 a 3 = some cs) (h : DataW.trod enc Try.prog W 0 (fun _ => true) true n 41 cs = some D) :
    a.spot = none ∧ a.block < W.heap.size ∧ ∃ x : Fld, FldAt W a.block a.off x := by
  have hs_int : Try.prog.cellsOf 3 = 1 := by kernel_rfl
  have hs_string : Try.prog.cellsOf 9 = 1 := by kernel_rfl
  have hs_kind : Try.prog.cellsOf 39 = 1 := by kernel_rfl
  obtain ⟨_, hlen, hat⟩ := World.cells?_some hc
  obtain ⟨y0, y1, y2, n', _, _, t0, t1, t2⟩ := Go.Deep.trod_struct3 Try.underlying41 h
  match cs, hlen with
  | [u0, u1, u2], _ =>
    have g0 := hat 0 (by omega)
    have g1 := hat 1 (by omega)
    have g2 := hat 2 (by omega)
    simp only [hs_int, hs_string, hs_kind, List.drop, List.take] at t0 t1 t2
    obtain ⟨K0, eK0, _, _⟩ := DataW.trod_string Try.underlying9 t0
    obtain ⟨K1, eK1, _, _⟩ := DataW.trod_int Try.underlying39 t1
    obtain ⟨K2, eK2, _, _⟩ := DataW.trod_int Try.underlying3 t2
    simp at eK0 eK1 eK2
    subst eK0; subst eK1; subst eK2
    obtain ⟨h1, h2⟩ := spot_of g0
    obtain ⟨b, off, spot⟩ := a
    simp only at h1 h2
    subst h1
    rw [addr_add] at g0 g1 g2
    exact ⟨rfl, h2, ⟨K0, K1, K2⟩, g0, g1, g2⟩

set_option maxRecDepth 100000 in
theorem open_fields {fuel : Nat} {cs : List Value} {x : DataW H × List MemPlace} (h : DataW.trod enc Try.prog W 0 (fun _ => true) true fuel 22 cs = some x) :
    ∃ (p : Option Addr) (c : Nat) (l : List Fld), cs = [.slice p l.length c] ∧ l.length ≤ c ∧ FP W W.heap.size p l :=
  open_row Try.underlying22 (by kernel_rfl) FldAt (fun a n cs D hc h => open_field a n cs D hc h) h

end
end Go.Proofs.Ytkgkcnmnfhehfaa

namespace Go.Proofs.Ytkgkcnmnfhehfaa
open Go.ChangeShapes Go.WideShapes Go.ChangeAt Go.RowKit Go.Proofs.Heap Go.Proofs.Sch

section
variable {H : Type} {enc : TypeId × Value → H} {W : World}

/-- No weight is past what an argument may have. -/
def SZ (P : Program) (t : TypeId) (D : DataW H) : Prop := ∀ n ∈ D.weights P t, n ≤ reachBytes

theorem sz_all {P : Program} {e : TypeId} : ∀ {l : List (DataW H)} {d : DataW H}, d ∈ l → ∀ n ∈ d.weights P e, n ∈ DataW.weightsAll P e l
  | [], _, h, _, _ => by simp at h
  | x :: l, d, h, n, hn => by
    simp only [DataW.weightsAll, List.mem_append]
    rcases List.mem_cons.1 h with rfl | h
    · exact .inl hn
    · exact .inr (sz_all h n hn)
theorem SZ.elem {P : Program} {t e : TypeId} {l s : List (DataW H)} (h : SZ P t (.slice l s)) (ht : P.underlying t = some (.slice e)) {d : DataW H} (hd : d ∈ l) : SZ P e d := fun n hn => h n (by
  simp only [DataW.weights, ht, List.mem_cons, List.mem_append]
  exact .inr (.inl (sz_all hd n hn)))
theorem SZ.len {P : Program} {t e : TypeId} {l s : List (DataW H)} (h : SZ P t (.slice l s)) (ht : P.underlying t = some (.slice e)) : l.length * P.bytesOf e ≤ reachBytes := by
  have := h ((l.length + s.length) * P.bytesOf e) (by simp [DataW.weights, ht])
  rw [Nat.add_mul] at this
  omega
theorem SZ.part {P : Program} {t : TypeId} {fs : Array Field} {l : List (DataW H)} (h : SZ P t (.agg l)) (ht : P.underlying t = some (.struct fs)) {j : Nat} {u : TypeId} {d : DataW H} (hu : (fs.toList.map (·.type))[j]? = some u) (hd : l[j]? = some d) : SZ P u d := fun n hn => h n (by
  simp only [DataW.weights, ht]
  exact DataW.weights_mem_each hu hd n hn)
theorem SZ.arg {P : Program} {ts : List TypeId} {ds : List (DataW H)} (h : (DataW.weightsEach P ts ds).all (· ≤ reachBytes) = true) {j : Nat} {t : TypeId} {d : DataW H} (ht : ts[j]? = some t) (hd : ds[j]? = some d) : SZ P t d := fun n hn => by
  have := List.all_eq_true.1 h _ (DataW.weights_mem_each ht hd n hn)
  simpa using this

/-- A row of things that a law is handed. -/
theorem open_row_s {α : Type} {z : Nat} {t e : TypeId} (ht : Try.prog.underlying t = some (.slice e)) (hsz : Try.prog.cellsOf e = z) (at_ : World → Nat → Nat → α → Prop) (Q : α → Prop)
    (hel : ∀ (a : Addr) (n : Nat) (cs : List Value) (D : DataW H × List MemPlace), W.cells? 0 a z = some cs → DataW.trod enc Try.prog W 0 (fun _ => true) true n e cs = some D → SZ Try.prog e D.1 → a.spot = none ∧ a.block < W.heap.size ∧ ∃ x : α, at_ W a.block a.off x ∧ Q x)
    {fuel : Nat} {cs : List Value} {x : DataW H × List MemPlace} (h : DataW.trod enc Try.prog W 0 (fun _ => true) true fuel t cs = some x) (hx : SZ Try.prog t x.1) :
    ∃ (p : Option Addr) (c : Nat) (l : List α), cs = [.slice p l.length c] ∧ l.length ≤ c ∧ RowP z at_ W W.heap.size p l ∧ (∀ y ∈ l, Q y) ∧ l.length * Try.prog.bytesOf e ≤ reachBytes := by
  rcases Go.Deep.open_slice ht h with ⟨hcs, _⟩ | ⟨a, len, cap, m, n, D, Pl, hcs, _, hl, hm, hz', hxe, hcell⟩
  · exact ⟨none, 0, [], hcs, Nat.le_refl _, .inl rfl, fun y hy => by simp at hy, by simp⟩
  · have hmc : m = cap := by simpa using hz'
    subst hmc
    rw [hsz] at hcell
    rw [hxe] at hx
    have hlen := hx.len ht
    have hpart : ∀ i, i < len → SZ Try.prog e (D i) := fun i hi => hx.elem ht (List.mem_map.2 ⟨i, List.mem_range.2 hi, rfl⟩)
    simp only [List.length_map, List.length_range] at hlen
    by_cases hl0 : len = 0
    · subst hl0
      exact ⟨some a, m, [], hcs, Nat.zero_le _, .inl rfl, fun y hy => by simp at hy, by simp⟩
    · obtain ⟨b, off, spot⟩ := a
      have hblk : spot = none ∧ b < W.heap.size := by
        obtain ⟨cs', hc1, hc2⟩ := hcell 0 (by omega)
        obtain ⟨h1, h2, _⟩ := hel _ _ _ _ hc1 hc2 (hpart 0 (by omega))
        refine ⟨?_, by simpa [Addr.add] using h2⟩
        simpa [Addr.add] using h1
      obtain ⟨rfl, hb⟩ := hblk
      have key : ∀ k, k ≤ len → ∃ l : List α, l.length = k ∧ (∀ i y, l[i]? = some y → at_ W b (off + i * z) y) ∧ ∀ y ∈ l, Q y := by
        intro k
        induction k with
        | zero => exact fun _ => ⟨[], rfl, fun i y hy => by simp at hy, fun y hy => by simp at hy⟩
        | succ k ih =>
          intro hk
          obtain ⟨l, hll, hla, hlq⟩ := ih (by omega)
          obtain ⟨cs', hc1, hc2⟩ := hcell k (by omega)
          obtain ⟨_, _, y, hy, hq⟩ := hel _ _ _ _ hc1 hc2 (hpart k (by omega))
          rw [addr_add] at hy
          refine ⟨l ++ [y], by simp [hll], fun i u hu => ?_, fun u hu => ?_⟩
          · by_cases hik : i < k
            · rw [List.getElem?_append_left (by omega)] at hu
              exact hla i u hu
            · rw [List.getElem?_append_right (by omega)] at hu
              have : i = k := by
                have := (List.getElem?_eq_some_iff.1 hu).1
                simp at this
                omega
              subst this
              simp [hll] at hu
              subst hu
              exact hy
          · rcases List.mem_append.1 hu with hu | hu
            · exact hlq u hu
            · rw [List.mem_singleton.1 hu]; exact hq
      obtain ⟨l, hll, hla, hlq⟩ := key len (Nat.le_refl _)
      subst hll
      exact ⟨_, m, l, hcs, hl, .inr ⟨b, off, rfl, hb, hla⟩, hlq, hlen⟩

theorem bytes_field : Try.prog.bytesOf 41 = 32 := by kernel_rfl
theorem reach_eq : reachBytes = 140737488351232 := rfl

set_option maxRecDepth 100000 in
theorem open_fields_s {fuel : Nat} {cs : List Value} {x : DataW H × List MemPlace} (h : DataW.trod enc Try.prog W 0 (fun _ => true) true fuel 22 cs = some x) (hx : SZ Try.prog 22 x.1) :
    ∃ (p : Option Addr) (c : Nat) (l : List Fld), cs = [.slice p l.length c] ∧ l.length ≤ c ∧ FP W W.heap.size p l ∧ l.length ≤ 4398046510976 := by
  obtain ⟨p, c, l, h1, h2, h3, _, h4⟩ := open_row_s Try.underlying22 (by kernel_rfl) FldAt (fun _ => True) (fun a n cs D hc h _ => by obtain ⟨a1, a2, x, a3⟩ := open_field a n cs D hc h; exact ⟨a1, a2, x, a3, trivial⟩) h hx
  rw [bytes_field, reach_eq] at h4
  exact ⟨p, c, l, h1, h2, h3, by omega⟩

def CmpS (c : Cmp) : Prop := c.fs.length ≤ 4398046510976
end
end Go.Proofs.Ytkgkcnmnfhehfaa

namespace Go.Proofs.Ytkgkcnmnfhehfaa
open Go.ChangeShapes Go.WideShapes Go.ChangeAt Go.RowKit Go.Proofs.Heap Go.Proofs.Sch Go.Proofs.Wide

section
variable {H : Type} {enc : TypeId × Value → H} {W : World}

theorem u64_wf {z : Int} (h : (Lit.int .u64 z).wf = true) : 0 ≤ z ∧ z < 18446744073709551616 := by
  have h : IntKind.u64.min ≤ z ∧ z ≤ IntKind.u64.max := by simpa [Lit.wf] using h
  have h1 : IntKind.u64.min = 0 := by decide
  have h2 : IntKind.u64.max = 18446744073709551615 := by decide
  omega

def IntFit (w : World) (b o : Nat) (x : WI) : Prop := IntAt w b o x ∧ x.fit

set_option maxRecDepth 100000 in
theorem open_wide (a : Addr) (n : Nat) (cs : List Value) (D : DataW H × List MemPlace) (hc : W.cells? 0 a 3 = some cs) (h : DataW.trod enc Try.prog W 0 (fun _ => true) true n 57 cs = some D) :
    a.spot = none ∧ a.block < W.heap.size ∧ ∃ x : WI, IntFit W a.block a.off x := by
  have hs_bool : Try.prog.cellsOf 4 = 1 := by kernel_rfl
  have hs_u64 : Try.prog.cellsOf 55 = 1 := by kernel_rfl
  obtain ⟨_, hlen, hat⟩ := World.cells?_some hc
  obtain ⟨y0, y1, y2, n', _, _, t0, t1, t2⟩ := Go.Deep.trod_struct3 Try.underlying57 h
  match cs, hlen with
  | [u0, u1, u2], _ =>
    have g0 := hat 0 (by omega)
    have g1 := hat 1 (by omega)
    have g2 := hat 2 (by omega)
    simp only [hs_bool, hs_u64, List.drop, List.take] at t0 t1 t2
    obtain ⟨K0, eK0, _⟩ := DataW.trod_bool Try.underlying4 t0
    obtain ⟨K1, eK1, _, w1⟩ := DataW.trod_int Try.underlying55 t1
    obtain ⟨K2, eK2, _, w2⟩ := DataW.trod_int Try.underlying55 t2
    simp at eK0 eK1 eK2
    subst eK0; subst eK1; subst eK2
    have b1 := u64_wf w1
    have b2 := u64_wf w2
    obtain ⟨N1, rfl⟩ := Int.eq_ofNat_of_zero_le b1.1
    obtain ⟨N2, rfl⟩ := Int.eq_ofNat_of_zero_le b2.1
    obtain ⟨h1, h2⟩ := spot_of g0
    obtain ⟨b, off, spot⟩ := a
    simp only at h1 h2
    subst h1
    rw [addr_add] at g0 g1 g2
    exact ⟨rfl, h2, ⟨K0, N1, N2⟩, ⟨g0, g1, g2⟩, by unfold WI.fit; simp only; omega⟩

theorem open_wides {fuel : Nat} {cs : List Value} {x : DataW H × List MemPlace} (h : DataW.trod enc Try.prog W 0 (fun _ => true) true fuel 23 cs = some x) :
    ∃ (p : Option Addr) (c : Nat) (l : List WI), cs = [.slice p l.length c] ∧ l.length ≤ c ∧ XP W W.heap.size p l ∧ ∀ y ∈ l, y.fit := by
  obtain ⟨p, c, l, h1, h2, h3⟩ := open_row Try.underlying23 (by kernel_rfl) IntFit (fun a n cs D hc h => open_wide a n cs D hc h) h
  refine ⟨p, c, l, h1, h2, RowP.imp h3 (Nat.le_refl _) (fun _ _ _ _ h => h.1), fun y hy => ?_⟩
  rcases h3 with rfl | ⟨b, off, _, _, hc⟩
  · cases hy
  · obtain ⟨i, hi⟩ := List.getElem?_of_mem hy
    exact (hc i y hi).2

end
end Go.Proofs.Ytkgkcnmnfhehfaa

namespace Go.Proofs.Ytkgkcnmnfhehfaa
open Go.ChangeShapes Go.WideShapes Go.ChangeAt Go.RowKit Go.Proofs.Heap Go.Proofs.Sch Go.Proofs.Wide

section
variable {H : Type} {enc : TypeId × Value → H} {W : World}

theorem nil_cap {t e : TypeId} (ht : Try.prog.underlying t = some (.slice e)) {fuel : Nat} {p : Option Addr} {n c : Nat} {x : DataW H × List MemPlace} (h : DataW.trod enc Try.prog W 0 (fun _ => true) true fuel t [.slice p n c] = some x) : p = none → c = 0 := by
  intro hp
  subst hp
  rcases Go.Deep.open_slice ht h with ⟨hcs, _⟩ | ⟨a, len, cap, m, n, D, Pl, hcs, _⟩
  · simp at hcs; exact hcs.2
  · simp at hcs
set_option maxRecDepth 100000 in
/-- A field that a law is handed. -/
theorem open_field_of {v : Value} {r : Reach} {b : Nat} (hv : Value.okWide Try.prog W r b 41 v) {fuel : Nat} {x : DataW H × List MemPlace} (h : DataW.trod enc Try.prog W 0 (fun _ => true) true fuel 41 v.cells.toList = some x) :
    ∃ f : Fld, v = .agg #[.string f.name, .int .i64 f.kind, .int .i64 f.count] := by
  have hs_int : Try.prog.cellsOf 3 = 1 := by kernel_rfl
  have hs_string : Try.prog.cellsOf 9 = 1 := by kernel_rfl
  have hs_kind : Try.prog.cellsOf 39 = 1 := by kernel_rfl
  have hs : Try.prog.cellsOf 41 = 3 := by kernel_rfl
  unfold Value.okWide at hv
  rw [Try.underlying41] at hv
  obtain ⟨cs, rfl, hsz, _⟩ := hv
  rw [hs] at hsz
  obtain ⟨⟨u0, u1, u2, rfl⟩⟩ : Nonempty (∃ u0 u1 u2, cs = #[u0, u1, u2]) := by
    obtain ⟨l⟩ := cs
    match l, hsz with
    | [u0, u1, u2], _ => exact ⟨u0, u1, u2, rfl⟩
  obtain ⟨y0, y1, y2, n', _, _, t0, t1, t2⟩ := Go.Deep.trod_struct3 Try.underlying41 h
  simp only [Value.cells, hs_int, hs_string, hs_kind, List.drop, List.take] at t0 t1 t2
  obtain ⟨K0, eK0, _, _⟩ := DataW.trod_string Try.underlying9 t0
  obtain ⟨K1, eK1, _, _⟩ := DataW.trod_int Try.underlying39 t1
  obtain ⟨K2, eK2, _, _⟩ := DataW.trod_int Try.underlying3 t2
  simp at eK0 eK1 eK2
  subst eK0; subst eK1; subst eK2
  exact ⟨⟨K0, K1, K2⟩, rfl⟩
set_option maxRecDepth 100000 in
/-- A great number that a law is handed. -/
theorem open_wide_of {v : Value} {r : Reach} {b : Nat} (hv : Value.okWide Try.prog W r b 57 v) {fuel : Nat} {x : DataW H × List MemPlace} (h : DataW.trod enc Try.prog W 0 (fun _ => true) true fuel 57 v.cells.toList = some x) :
    ∃ y : WI, v = .agg #[.bool y.neg, .int .u64 (y.hi : Int), .int .u64 (y.lo : Int)] ∧ y.fit := by
  have hs_bool : Try.prog.cellsOf 4 = 1 := by kernel_rfl
  have hs_u64 : Try.prog.cellsOf 55 = 1 := by kernel_rfl
  have hs : Try.prog.cellsOf 57 = 3 := by kernel_rfl
  unfold Value.okWide at hv
  rw [Try.underlying57] at hv
  obtain ⟨cs, rfl, hsz, _⟩ := hv
  rw [hs] at hsz
  obtain ⟨⟨u0, u1, u2, rfl⟩⟩ : Nonempty (∃ u0 u1 u2, cs = #[u0, u1, u2]) := by
    obtain ⟨l⟩ := cs
    match l, hsz with
    | [u0, u1, u2], _ => exact ⟨u0, u1, u2, rfl⟩
  obtain ⟨y0, y1, y2, n', _, _, t0, t1, t2⟩ := Go.Deep.trod_struct3 Try.underlying57 h
  simp only [Value.cells, hs_bool, hs_u64, List.drop, List.take] at t0 t1 t2
  obtain ⟨K0, eK0, _⟩ := DataW.trod_bool Try.underlying4 t0
  obtain ⟨K1, eK1, _, w1⟩ := DataW.trod_int Try.underlying55 t1
  obtain ⟨K2, eK2, _, w2⟩ := DataW.trod_int Try.underlying55 t2
  simp at eK0 eK1 eK2
  subst eK0; subst eK1; subst eK2
  have b1 := u64_wf w1
  have b2 := u64_wf w2
  obtain ⟨N1, rfl⟩ := Int.eq_ofNat_of_zero_le b1.1
  obtain ⟨N2, rfl⟩ := Int.eq_ofNat_of_zero_le b2.1
  exact ⟨⟨K0, N1, N2⟩, rfl, by unfold WI.fit; simp only; omega⟩
end
end Go.Proofs.Ytkgkcnmnfhehfaa
