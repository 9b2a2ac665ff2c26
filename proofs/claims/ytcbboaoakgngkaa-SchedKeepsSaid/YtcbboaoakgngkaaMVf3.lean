/- What is proved: what a step of the search does. -/
import Derived.Test.YtcbboaoakgngkaaMSchFind
import Derived.Test.YtcbboaoakgngkaaMLay
namespace Go.Proofs.Ytcbboaoakgngkaa
open Go.RowKit Go.Proofs.Heap Go.Proofs.Sch

theorem ways_one (n d j : Nat) (st : List Int × List Nat) : waysF n d [j] st = reachF n st j d := by
  unfold waysF
  cases reachF n st j d with
  | none => rfl
  | some s => rfl
theorem ways_two (n d j k : Nat) (st : List Int × List Nat) : waysF n d [j, k] st = match reachF n st j d with | none => none | some s => reachF n s k d := by
  rw [waysF]
  cases reachF n st j d with
  | none => rfl
  | some s => exact ways_one n d k s
theorem reach_len {n : Nat} {D E : List Int} {T U : List Nat} {j d : Nat} (h : reachF n (D, T) j d = some (E, U)) : U.length ≤ T.length + 1 := by
  unfold reachF at h
  simp only at h
  split at h
  · cases h
  · split at h
    · injection h with h
      injection h with _ h
      subst h
      split
      · rw [List.length_append, List.length_singleton]; exact Nat.le_refl _
      · omega
    · split at h
      · injection h with h
        injection h with _ h
        subst h; omega
      · cases h
theorem keep_cell {w w' : World} {b o : Nat} {v : Value} (hk : Keep (fun _ => False) w w') (h : w.cell? ⟨b, o, none⟩ = some v) : w'.cell? ⟨b, o, none⟩ = some v :=
  ((Low.keep0 hk).cell (World.block_lt_of_cell? w _ h)).trans h
theorem cells5 {w : World} {b : Nat} {t : TypeId} {v0 v1 v2 v3 v4 : Value} (x0 x1 x2 x3 x4 : Value) (h : w.heap[b]? = some (.cells #[v0, v1, v2, v3, v4] t (0, 0))) :
    (((((w.setCell ⟨b, 0, none⟩ x0).setCell ⟨b, 1, none⟩ x1).setCell ⟨b, 2, none⟩ x2).setCell ⟨b, 3, none⟩ x3).setCell ⟨b, 4, none⟩ x4).heap[b]? = some (.cells #[x0, x1, x2, x3, x4] t (0, 0)) := by
  rw [hsc_same (hsc_same (hsc_same (hsc_same (hsc_same h 0 x0) 1 x1) 2 x2) 3 x3) 4 x4]; rfl

set_option maxRecDepth 20000 in
set_option maxHeartbeats 16000000 in
theorem flow_step (base fb dg : Nat) (pc : Option Addr) (cc dc : Nat) (tv : Value) (D : List Int) (T : List Nat) (code : List VOp) (i d : Nat) (x : VOp) (w : World) (hx : code[i]? = some x) (hd : D[i]? = some (d : Int)) (hd16 : d ≤ 100) (hn : code.length ≤ 1000) (hT : T.length ≤ 900)
    (hk : x.code = 16 ∨ x.code = 17 → 0 ≤ x.k ∧ x.k ≤ code.length) (hv : VP w base pc code) (h : FlowS w base fb dg pc code.length cc dc tv D T) :
    Calls Try.prog 31 #[.pointer (some ⟨fb, 0, none⟩), iV i] w fun r w' => Keep (fun g => base ≤ g) w w' ∧ LookP (stepF code D T i) w' base fb dg pc code.length cc dc r := by
  have hi : i < code.length := (List.getElem?_eq_some_iff.1 hx).1
  have HR : Hid (stepF code D T i = if d < takesV x.code then none else waysF code.length (nextV d x) (waysV i x) (D, T)) := hid (by unfold stepF; rw [hx, hd]; rfl)
  generalize stepF code D T i = R at *
  have HNX : Hid (nextV d x = d - takesV x.code + putsV x.code) := hid rfl
  have hnb : takesV x.code ≤ 2 ∧ putsV x.code ≤ 2 := by
    constructor
    · unfold takesV; split
      · omega
      · split <;> omega
    · unfold putsV; split
      · omega
      · split <;> omega
  have HWV : Hid (waysV i x = (if x.code = 16 ∨ x.code = 23 then [] else [i + 1]) ++ (if x.code = 16 ∨ x.code = 17 then [x.k.toNat] else [])) := hid rfl
  generalize waysV i x = ws at *
  generalize nextV d x = nx at *
  obtain ⟨b, off, rfl, hb, x0, x1, x2, x3, x4⟩ := VP.at hv hx
  have H := hid h
  have HK := hid hk
  have c0 : w.cell? ⟨fb, 0, none⟩ = some (.slice (some ⟨b, off, none⟩) code.length cc) := cell_of h.box (by rfl)
  have c1 : w.cell? ⟨fb, 1, none⟩ = some (.slice (some ⟨dg, 0, none⟩) (code.length + 1) dc) := cell_of h.box (by rfl)
  have e0 : w.cell? ⟨dg, i, none⟩ = some (.int .i64 (d : Int)) := by rw [owns_cell h.deps (by omega), List.getElem?_map, hd]; rfl
  have HLB := hid (lt_of_heap h.box)
  have hin : (0 : Int) ≤ (i : Int) ∧ (i : Int) < (code.length : Int) := ⟨by omega, by omega⟩
  have hin2 : (0 : Int) ≤ (i : Int) ∧ (i : Int) < (code.length : Int) + 1 := ⟨by omega, by omega⟩
  have HC : Hid (∀ wy, Keep (fun _ => False) w wy → wy.cell? ⟨fb, 0, none⟩ = some (.slice (some ⟨b, off, none⟩) code.length cc) ∧ wy.cell? ⟨fb, 1, none⟩ = some (.slice (some ⟨dg, 0, none⟩) (code.length + 1) dc) ∧ wy.cell? ⟨dg, i, none⟩ = some (.int .i64 (d : Int)) ∧
      wy.cell? ⟨b, off + i * 5, none⟩ = some (.int .i64 x.code) ∧ wy.cell? ⟨b, off + i * 5 + 1, none⟩ = some (.int .i64 x.a) ∧ wy.cell? ⟨b, off + i * 5 + 2, none⟩ = some (.int .i64 x.b) ∧ wy.cell? ⟨b, off + i * 5 + 3, none⟩ = some (.int .i64 x.c) ∧ wy.cell? ⟨b, off + i * 5 + 4, none⟩ = some (.int .i64 x.k)) := hid (fun wy hk =>
    ⟨keep_cell hk c0, keep_cell hk c1, keep_cell hk e0, keep_cell hk x0, keep_cell hk x1, keep_cell hk x2, keep_cell hk x3, keep_cell hk x4⟩)
  clear h hd hv hx hk hb c0 c1 e0 x0 x1 x2 x3 x4
  generalize hnl : code.length = n at *
  clear hnl
  go_enter Try.func31, Try.ntmps31
  go_wp2_with fail
  refine Plan.wp_region_pl [(false, 0, []), (false, 1, []), (false, 2, []), (false, 3, []), (false, 4, []), (false, 5, []), (false, 6, []), (false, 7, []), (false, 8, []), (false, 9, []), (false, 10, []), (false, 11, []), (false, 12, []), (false, 13, []), (true, 14, [13, 12, 11, 10, 9, 8, 7, 6, 5, 4, 3, 2, 1, 0]), (true, 15, [13, 12, 11, 10, 9, 8, 7]), (false, 16, [])] (by as_aux_lemma => kernel_rfl) (by as_aux_lemma => kernel_rfl) ?_
  have HKD : Hid (Keep (fun _ => False) w w.drew) := hid (Keep.refl _ w).drew
  obtain ⟨d0, d1, d2, y0, y1, y2, y3, y4⟩ := HC.out _ HKD.out
  have hle : w.heap.size ≤ w.drew.heap.size := Nat.le_refl _
  generalize w.drew = wd at *
  iterate 14 (refine Plan.pl_st rfl ?_; go_big_quiet_step (fail); refine wpQuiet_nil ?_)
  have hk1 := HKD.out.alloc (.cells #[.int .i64 0, .int .i64 0, .int .i64 0, .int .i64 0, .int .i64 0] 54)
  have hb1 := heap_alloc_new wd (.cells #[.int .i64 0, .int .i64 0, .int .i64 0, .int .i64 0, .int .i64 0] 54)
  have HK1 := hid hk1; have HB1 := hid hb1
  have hxb : w.heap.size ≤ wd.heap.size := hle
  have HXB := hid hxb
  clear hk1 hb1 hle d0 d1 d2 y0 y1 y2 y3 y4
  obtain ⟨d0, d1, d2, y0, y1, y2, y3, y4⟩ := HC.out _ HK1.out
  refine Plan.pl_ac rfl ?_
  go_wp2
  refine Plan.plQ_mk ?_ ?_
  · iterate 14 (refine Plan.chk_st rfl ?_ ?_; focus (go_big_quiet_step (fail); exact wpQuiet_nil rfl))
    exact Plan.chk_end
  clear d0 d1 d2 y0 y1 y2 y3 y4 hxb
  generalize wd.alloc (.cells #[.int .i64 0, .int .i64 0, .int .i64 0, .int .i64 0, .int .i64 0] 54) = w1 at *
  generalize wd.heap.size = xb at *
  have f0 := free_of HB1.out 0
  have f1 := free_of HB1.out 1
  have f2 := free_of HB1.out 2
  have f3 := free_of HB1.out 3
  have f4 := free_of HB1.out 4
  have z0 := cell_of HB1.out (i := 0) (by rfl)
  have z1 := cell_of HB1.out (i := 1) (by rfl)
  have z2 := cell_of HB1.out (i := 2) (by rfl)
  have z3 := cell_of HB1.out (i := 3) (by rfl)
  have z4 := cell_of HB1.out (i := 4) (by rfl)
  have HB2 := hid (cells5 (.int .i64 x.code) (.int .i64 x.a) (.int .i64 x.b) (.int .i64 x.c) (.int .i64 x.k) HB1.out)
  have HK2 : Hid (Keep (fun _ => False) w (((((w1.setCell ⟨xb, 0, none⟩ (.int .i64 x.code)).setCell ⟨xb, 1, none⟩ (.int .i64 x.a)).setCell ⟨xb, 2, none⟩ (.int .i64 x.b)).setCell ⟨xb, 3, none⟩ (.int .i64 x.c)).setCell ⟨xb, 4, none⟩ (.int .i64 x.k))) := hid (((((HK1.out.setCell_new (p := ⟨xb, 0, none⟩) HXB.out _).setCell_new (p := ⟨xb, 1, none⟩) HXB.out _).setCell_new (p := ⟨xb, 2, none⟩) HXB.out _).setCell_new (p := ⟨xb, 3, none⟩) HXB.out _).setCell_new (p := ⟨xb, 4, none⟩) HXB.out _)
  refine Plan.pl_ac rfl ?_
  go_wp2
  clear f0 f1 f2 f3 f4 z0 z1 z2 z3 z4
  generalize (((((w1.setCell ⟨xb, 0, none⟩ (.int .i64 x.code)).setCell ⟨xb, 1, none⟩ (.int .i64 x.a)).setCell ⟨xb, 2, none⟩ (.int .i64 x.b)).setCell ⟨xb, 3, none⟩ (.int .i64 x.c)).setCell ⟨xb, 4, none⟩ (.int .i64 x.k)) = w2 at *
  obtain ⟨d0, d1, d2, y0, y1, y2, y3, y4⟩ := HC.out _ HK2.out
  refine Plan.plQ_mk ?_ ?_
  · iterate 7 (refine Plan.chk_st rfl ?_ ?_; focus (go_big_quiet_step (fail); exact wpQuiet_nil rfl))
    exact Plan.chk_end
  iterate 1 (refine Plan.pl_st rfl ?_; go_big_quiet_step (fail); refine wpQuiet_nil ?_)
  refine Plan.pl_end ?_
  clear d0 d1 d2 y0 y1 y2 y3 y4 HB1 HK1 HKD
  have HXC : Hid (∀ wy, Keep (fun _ => False) w2 wy → wy.cell? ⟨xb, 0, none⟩ = some (.int .i64 x.code) ∧ wy.cell? ⟨xb, 1, none⟩ = some (.int .i64 x.a) ∧ wy.cell? ⟨xb, 2, none⟩ = some (.int .i64 x.b) ∧ wy.cell? ⟨xb, 3, none⟩ = some (.int .i64 x.c) ∧ wy.cell? ⟨xb, 4, none⟩ = some (.int .i64 x.k)) := hid (fun wy hk =>
    ⟨cell_of (hk.get HB2.out id) (by rfl), cell_of (hk.get HB2.out id) (by rfl), cell_of (hk.get HB2.out id) (by rfl), cell_of (hk.get HB2.out id) (by rfl), cell_of (hk.get HB2.out id) (by rfl)⟩)
  obtain ⟨y0, y1, y2, y3, y4⟩ := HXC.out _ (Keep.refl _ _)
  go_wp2_with fail
  refine (takes_op x _).mono ?_
  rintro r w3 ⟨rfl, hk3⟩
  have HK3 := hid hk3
  clear hk3 y0 y1 y2 y3 y4
  have HKW3 := hid (HK2.out.trans HK3.out)
  have HT := hid (fun wy => takes_op x wy); have HP := hid (fun wy => puts_op x wy)
  generalize takesV x.code = tk at *
  generalize putsV x.code = pt at *
  by_cases hdt : d < tk
  · have g1 : decide ((d : Int) < (tk : Int)) = true := decide_eq_true (by omega)
    have g2 : decide (d < tk) = true := decide_eq_true hdt
    have G : Hid (R = none) := hid (by rw [HR.out, if_pos hdt])
    go_wp2
    go_ret
    exact ⟨HKW3.out.mono (fun _ _ h => h.elim), LookP.no G.out⟩
  have g1 : decide ((d : Int) < (tk : Int)) = false := decide_eq_false (by omega)
  have g2 : decide (d < tk) = false := decide_eq_false hdt
  have HR1 : Hid (R = waysF n nx ws (D, T)) := hid (by rw [HR.out, if_neg hdt])
  clear HR
  go_upto_region 4 with fail
  clear g1 g2
  obtain ⟨y0, y1, y2, y3, y4⟩ := HXC.out _ HK3.out.drew
  refine Plan.wp_region_pl [(false, 0, []), (false, 1, []), (false, 4, []), (true, 2, [4, 0]), (false, 3, []), (true, 5, [3, 0]), (false, 6, []), (false, 7, [])] (by as_aux_lemma => kernel_rfl) (by as_aux_lemma => kernel_rfl) ?_
  iterate 3 (refine Plan.pl_st rfl ?_; go_big_quiet_step (fail); refine wpQuiet_nil ?_)
  refine Plan.pl_ac rfl ?_
  go_wp2_with fail
  refine (HT.out _).mono ?_
  rintro r w4 ⟨rfl, hk4⟩
  have HK4 := hid (HK3.out.drew.trans hk4)
  clear hk4 y0 y1 y2 y3 y4
  obtain ⟨y0, y1, y2, y3, y4⟩ := HXC.out _ HK4.out
  go_wp2
  refine Plan.plQ_mk ?_ ?_
  · iterate 2 (refine Plan.chk_st rfl ?_ ?_; focus (go_big_quiet_step (fail); exact wpQuiet_nil rfl))
    exact Plan.chk_end
  obtain ⟨dm, hdm⟩ : ∃ dm : Nat, d - tk = dm := ⟨_, rfl⟩
  have hsub : (d : Int) - (tk : Int) = (dm : Int) := by omega
  iterate 1 (refine Plan.pl_st rfl ?_; go_big_quiet_step (fail); refine wpQuiet_nil ?_)
  refine Plan.pl_ac rfl ?_
  go_wp2_with fail
  refine (HP.out _).mono ?_
  rintro r w5 ⟨rfl, hk5⟩
  have HK5 := hid (HK4.out.trans hk5)
  clear hk5 y0 y1 y2 y3 y4
  go_wp2
  refine Plan.plQ_mk ?_ ?_
  · iterate 2 (refine Plan.chk_st rfl ?_ ?_; focus (go_big_quiet_step (fail); exact wpQuiet_nil rfl))
    exact Plan.chk_end
  have hadd : (dm : Int) + (pt : Int) = (nx : Int) := by have := HNX.out; omega
  iterate 2 (refine Plan.pl_st rfl ?_; go_big_quiet_step (fail); refine wpQuiet_nil ?_)
  refine Plan.pl_end ?_
  clear hsub hadd
  have HKW5 := hid (HK2.out.trans HK5.out)
  have HF5 := hid (H.out.keep HKW5.out)
  have HRE := hid (fun (j : Nat) (hj : j ≤ n) => flow_reach base fb dg (some ⟨b, off, none⟩) n cc dc tv D T j nx w5 hj (by omega) HF5.out)
  have HKM : Hid (Keep (fun g => base ≤ g) w w5) := hid (HKW5.out.mono (fun _ _ h => h.elim))
  have HBS : Hid (∀ k, k < w5.heap.size → (k = fb ∨ k = dg ∨ tv.ownBlock = some k) → base ≤ k) := hid (fun k _ h => by
    rcases h with rfl | rfl | h
    · exact HF5.out.low
    · exact HF5.out.dlow
    · exact (HF5.out.todo.lt k h).1)
  obtain ⟨y0, y1, y2, y3, y4⟩ := HXC.out _ HK5.out
  by_cases h23 : x.code = 23
  · have g1 : (x.code == 23) = true := beq_iff_eq.2 h23
    have G : Hid (R = some (D, T)) := hid (by rw [HR1.out, HWV.out, if_pos (.inr h23), if_neg (by omega)]; rfl)
    go_wp2
    go_ret
    exact ⟨HKM.out, LookP.yes G.out HF5.out⟩
  have g1 : (x.code == 23) = false := beq_eq_false_iff_ne.2 h23
  by_cases h16 : x.code = 16
  · have g2 : (x.code == 16) = true := beq_iff_eq.2 h16
    obtain ⟨h3, h4⟩ := HK.out (.inl h16)
    obtain ⟨kn, hkn⟩ := Int.eq_ofNat_of_zero_le h3
    have G : Hid (R = reachF n (D, T) kn nx) := hid (by rw [HR1.out, HWV.out, if_pos (.inl h16), if_pos (.inl h16), hkn]; exact ways_one n nx kn (D, T))
    rw [hkn] at y4 h4
    clear hkn h3
    have HRK := hid (HRE.out kn (by omega))
    rw [← G.out] at HRK
    go_wp2_with fail
    refine HRK.out.mono ?_
    rintro r w6 ⟨hk6, hl⟩
    have HK6 := hid (HKM.out.trans (hk6.mono HBS.out))
    have HL := hid hl
    obtain ⟨bb, hbb⟩ : ∃ bb, r = .returned (.bool bb) := by
      rcases hl with ⟨_, h⟩ | ⟨_, _, _, _, h, _⟩
      · exact ⟨false, h⟩
      · exact ⟨true, h⟩
    subst hbb
    clear hk6 hl
    go_wp2
    go_ret
    exact ⟨HK6.out, HL.out⟩
  have g2 : (x.code == 16) = false := beq_eq_false_iff_ne.2 h16
  by_cases h17 : x.code = 17
  · have g3 : (x.code == 17) = true := beq_iff_eq.2 h17
    obtain ⟨h3, h4⟩ := HK.out (.inr h17)
    obtain ⟨kn, hkn⟩ := Int.eq_ofNat_of_zero_le h3
    have G : Hid (R = match reachF n (D, T) (i + 1) nx with | none => none | some s => reachF n s kn nx) := hid (by rw [HR1.out, HWV.out, if_neg (by omega), if_pos (.inr h17), hkn]; exact ways_two n nx (i + 1) kn (D, T))
    have HXK : Hid (x.k = (kn : Int)) := hid hkn
    rw [hkn] at y4 h4
    clear hkn h3
    have HRK := hid (HRE.out (i + 1) (by omega))
    have hci : iV (i + 1) = .int .i64 ((i : Int) + 1) := by go_num
    rw [hci] at HRK
    have HXB5 : Hid (w5.heap[xb]? = some (.cells (OC x) 54 (0, 0))) := hid (HK5.out.get HB2.out id)
    have HXN : Hid (¬ (xb = fb ∨ xb = dg ∨ tv.ownBlock = some xb)) := hid (fun h => by
      have h1 := HXB.out
      rcases h with h | h | h
      · have := HLB.out; omega
      · have := (H.out.deps.lt dg (by simp [Value.ownBlock])).2; omega
      · have := (H.out.todo.lt xb h).2; omega)
    have HYK : Hid (x.k = (kn : Int) → ∀ wy, Keep (fun g => g = fb ∨ g = dg ∨ tv.ownBlock = some g) w5 wy → wy.cell? ⟨xb, 4, none⟩ = some (.int .i64 (kn : Int))) := hid (fun hxk wy hk => by
      have h := cell_of (hk.get HXB5.out HXN.out) (i := 4) (v := .int .i64 x.k) (by rfl)
      rwa [hxk] at h)
    go_wp2_with fail
    refine HRK.out.mono ?_
    rintro r w6 ⟨hk6, hl⟩
    have y4' := HYK.out HXK.out w6 hk6
    have HK6 := hid (HKM.out.trans (hk6.mono HBS.out))
    clear hk6 y0 y1 y2 y3 y4
    rcases hl with ⟨hn0, rfl⟩ | ⟨E, U, tv', hn0, rfl, hf6⟩
    · have G2 : Hid (R = none) := hid (by rw [G.out, hn0])
      clear hn0
      go_wp2
      go_ret
      exact ⟨HK6.out, LookP.no G2.out⟩
    · have G2 : Hid (R = reachF n (E, U) kn nx) := hid (by rw [G.out, hn0])
      have hul := reach_len hn0
      have HRK2 := hid (flow_reach base fb dg (some ⟨b, off, none⟩) n cc dc tv' E U kn nx w6 (by omega) (by omega) hf6)
      have HBS2 : Hid (∀ k, k < w6.heap.size → (k = fb ∨ k = dg ∨ tv'.ownBlock = some k) → base ≤ k) := hid (fun k _ h => by
        rcases h with rfl | rfl | h
        · exact hf6.low
        · exact hf6.dlow
        · exact (hf6.todo.lt k h).1)
      rw [← G2.out] at HRK2
      clear hn0 hul hf6
      go_wp2_with fail
      refine HRK2.out.mono ?_
      rintro r w7 ⟨hk7, hl⟩
      have HK7 := hid (HK6.out.trans (hk7.mono HBS2.out))
      have HL := hid hl
      obtain ⟨bb, hbb⟩ : ∃ bb, r = .returned (.bool bb) := by
        rcases hl with ⟨_, h⟩ | ⟨_, _, _, _, h, _⟩
        · exact ⟨false, h⟩
        · exact ⟨true, h⟩
      subst hbb
      clear hk7 hl
      go_wp2
      go_ret
      exact ⟨HK7.out, HL.out⟩
  have g3 : (x.code == 17) = false := beq_eq_false_iff_ne.2 h17
  have G : Hid (R = reachF n (D, T) (i + 1) nx) := hid (by rw [HR1.out, HWV.out, if_neg (by omega), if_neg (by omega)]; exact ways_one n nx (i + 1) (D, T))
  have HRK := hid (HRE.out (i + 1) (by omega))
  rw [← G.out] at HRK
  have hci : iV (i + 1) = .int .i64 ((i : Int) + 1) := by go_num
  rw [hci] at HRK
  go_wp2_with fail
  refine HRK.out.mono ?_
  rintro r w6 ⟨hk6, hl⟩
  have HK6 := hid (HKM.out.trans (hk6.mono HBS.out))
  have HL := hid hl
  obtain ⟨bb, hbb⟩ : ∃ bb, r = .returned (.bool bb) := by
    rcases hl with ⟨_, h⟩ | ⟨_, _, _, _, h, _⟩
    · exact ⟨false, h⟩
    · exact ⟨true, h⟩
  subst hbb
  clear hk6 hl
  go_wp2
  go_ret
  exact ⟨HK6.out, HL.out⟩
end Go.Proofs.Ytcbboaoakgngkaa

namespace Go.Proofs.Ytcbboaoakgngkaa
open Go.RowKit Go.Proofs.Heap Go.Proofs.Sch

theorem least_ex {p : Nat → Prop} : ∀ f, p f → ∃ n, p n ∧ ∀ m, p m → n ≤ m := by
  intro f
  induction f using Nat.strongRecOn with
  | ind f ih =>
    intro hf
    by_cases h : ∃ m, m < f ∧ p m
    · obtain ⟨m, hm, hp⟩ := h
      exact ih m hm hp
    · exact ⟨f, hf, fun m hm => Nat.le_of_not_lt (fun hl => h ⟨m, hl, hm⟩)⟩
/-- The least number of a kind. -/
noncomputable def least (p : Nat → Prop) : Nat := Classical.epsilon (fun n => p n ∧ ∀ m, p m → n ≤ m)
theorem least_spec {p : Nat → Prop} {f : Nat} (h : p f) : p (least p) ∧ ∀ m, p m → least p ≤ m := Classical.epsilon_spec (least_ex f h)

def codeC (code : List VOp) : Nat := if 64 < code.length then 5 else if code.all (goodOp code.length) = true then 0 else 4
theorem sys_code (code : List VOp) : sysC ⟨⟨#[97]⟩, 0, [], 0, 0, code⟩ = codeC code := by
  have h1 : nameB ⟨#[97]⟩ = true := by decide +kernel
  have h2 : afterC ⟨#[97]⟩ [] = 0 := by unfold afterC; simp
  have h3 : isSig 0 = true := by decide
  have h4 : meetsB 0 0 = false := by decide
  unfold sysC codeC
  simp only
  rw [if_neg (by rw [h1]; simp), if_neg (by omega), if_neg (by rw [h2]; simp), if_neg (by rw [h3]; simp), if_neg (by rw [h4]; simp)]
theorem code_zero {code : List VOp} (h : codeC code = 0) : code.length ≤ 64 ∧ ∀ x ∈ code, goodOp code.length x = true := by
  unfold codeC at h
  by_cases h1 : 64 < code.length
  · rw [if_pos h1] at h; omega
  · rw [if_neg h1] at h
    by_cases h2 : code.all (goodOp code.length) = true
    · exact ⟨by omega, List.all_eq_true.1 h2⟩
    · rw [if_neg h2] at h; omega
theorem good_jump {n : Nat} {x : VOp} (h : goodOp n x = true) (hc : x.code = 16 ∨ x.code = 17) : 0 ≤ x.k ∧ x.k ≤ n := by
  unfold goodOp at h
  have hn : namesN x.code = 1 := by unfold namesN; rw [if_pos (by omega)]
  rw [hn, Bool.and_eq_true, if_neg (by omega), if_pos rfl] at h
  have := of_decide_eq_true h.2
  omega
theorem code_in {code : List VOp} (h : codeC code = 0) : InV code := by
  intro i x hx j hj
  have hi := (List.getElem?_eq_some_iff.1 hx).1
  have hg := (code_zero h).2 x (List.mem_of_getElem? hx)
  unfold waysV at hj
  rcases List.mem_append.1 hj with hj | hj
  · split at hj
    · cases hj
    · rw [List.mem_singleton.1 hj]; omega
  · split at hj
    · rename_i hc
      have := good_jump hg hc
      rw [List.mem_singleton.1 hj]; omega
    · cases hj

set_option maxRecDepth 20000 in
set_option maxHeartbeats 2000000 in
theorem is_codeC (code : List VOp) (pc : Option Addr) (cc : Nat) (w : World) (hv : VP w w.heap.size pc code) :
    Calls Try.prog 28 #[.slice pc code.length cc] w fun r w' => r = .returned (.bool (decide (codeC code = 0))) ∧ Keep (fun _ => False) w w' := by
  have HK := hid (craft_check ⟨⟨#[97]⟩, 0, [], 0, 0, code⟩ none 0 pc cc w (by show (0 : Nat) < 4294967296; omega) (by show (0 : Nat) < 4294967296; omega) (Nat.le_refl _) (.inl rfl) hv)
  rw [sys_code] at HK
  clear hv
  have HD : Hid (((codeC code : Int) == 0) = decide (codeC code = 0)) := hid (by
    generalize codeC code = m
    by_cases h : m = 0
    · subst h; rfl
    · rw [beq_eq_false_iff_ne.2 (by omega), decide_eq_false h])
  generalize decide (codeC code = 0) = R at *
  generalize codeC code = m at *
  go_enter Try.func28, Try.ntmps28
  go_wp2_with fail
  refine HK.out.mono ?_
  rintro r w1 ⟨rfl, hk⟩
  have HK1 := hid hk
  clear hk
  go_wp2
  go_ret
  exact ⟨by rw [← HD.out]; rfl, HK1.out⟩

/-- The error of code, and its places' depths. -/
def depthsE (code : List VOp) : Nat := if codeC code = 0 then (match depthsV code with | some _ => 0 | none => 7) else 4
def depthsL (code : List VOp) : List Int := if codeC code = 0 then (match depthsV code with | some E => E | none => []) else []
theorem start_reach (code : List VOp) : reachF code.length (List.replicate (code.length + 1) (-1), []) 0 0 = some (startV code, if code.length = 0 then [] else [0]) := by
  unfold reachF startV
  rw [if_neg (by omega), if_pos (by rw [List.getElem?_replicate, if_pos (by omega)])]
  congr 2
  by_cases h : code.length = 0
  · rw [if_neg (by omega), if_pos h]
  · rw [if_pos (by omega), if_neg h]; rfl
/-- Where the search stands, with so much left to do. -/
def WorkS (w0 : World) (base fb dg : Nat) (pc : Option Addr) (code : List VOp) (cc dc : Nat) (f : Nat) (w : World) : Prop :=
  ∃ D T tv, FlowS w base fb dg pc code.length cc dc tv D T ∧ WorkV code D T ∧ runF code f D T = depthsV code ∧ T.length + (code.length + 1 - seenN D) < f ∧ f ≤ code.length + 2 ∧ Keep (fun _ => False) w0 w
theorem owns_cut {w : World} {base : Nat} {e : TypeId} {p : Option Addr} {c n m : Nat} {xs : List Value} (h : w.ownsRow base e 1 (.slice p n c) n xs) (hm : m ≤ n) (hp : p ≠ none) : w.ownsRow base e 1 (.slice p m c) m (xs.take m) := by
  rcases owns_block h with ⟨e1, _⟩ | ⟨g', c', cur, e1, hb, hg, hn, hm2, hs, ht⟩
  · injection e1 with e1; exact absurd e1 hp
  · injection e1 with e1 _ e2
    subst e1; subst e2
    have hl := h.1
    refine ⟨by rw [List.length_take]; omega, .inr ⟨g', _, cur, rfl, hb, hg, by omega, hm2, hs, ?_⟩⟩
    rw [← ht, List.take_take]
    congr 1
    omega

theorem owns_room2 {w : World} {base n c : Nat} {e : TypeId} {size : Nat} {p : Option Addr} {xs : List Value} (h : w.ownsRow base e size (.slice p n c) n xs) : n ≤ c := by
  rcases h.2 with ⟨h1, h2⟩ | ⟨g, cap, cur, hv, hb, hg, hn, _⟩
  · injection h1 with h3 h4 h5; omega
  · injection hv with h3 h4 h5; omega

set_option maxRecDepth 20000 in
set_option maxHeartbeats 16000000 in
theorem verify_depths (code : List VOp) (pc : Option Addr) (cc : Nat) (w : World) (hv : VP w w.heap.size pc code) :
    Calls Try.prog 10 #[.slice pc code.length cc] w fun r w' => ∃ a c, r = .returned (.tuple #[.slice a (depthsL code).length c, iV (depthsE code)]) ∧ w'.ownsRow w.heap.size 3 1 (.slice a (depthsL code).length c) (depthsL code).length ((depthsL code).map iZ) ∧ Keep (fun _ => False) w w' := by
  have HV := hid hv
  have HIC := hid (is_codeC code pc cc w hv)
  have HE : Hid (depthsE code = if codeC code = 0 then (match depthsV code with | some _ => 0 | none => 7) else 4) := hid rfl
  have HL : Hid (depthsL code = if codeC code = 0 then (match depthsV code with | some E => E | none => []) else []) := hid rfl
  generalize depthsE code = e at *
  generalize depthsL code = l at *
  clear hv
  go_enter Try.func10, Try.ntmps10
  go_wp2_with fail
  refine HIC.out.mono ?_
  rintro r w1 ⟨rfl, hk1⟩
  have HK1 := hid hk1
  clear hk1 HIC
  by_cases hc0 : codeC code = 0
  rotate_left
  · have G1 : Hid (e = 4) := hid (by rw [HE.out, if_neg hc0])
    have G2 : Hid (l = []) := hid (by rw [HL.out, if_neg hc0])
    rw [decide_eq_false hc0]
    clear hc0
    go_wp2
    (try simp only [Exit.inBlock, Exit.then])
    refine bodyPost_ret (results_2 rfl _) rfl ?_
    rw [G1.out, G2.out]
    exact ⟨none, 0, rfl, World.ownsRow_nil _ _ _ _, HK1.out⟩
  rw [decide_eq_true hc0]
  have HE1 : Hid (e = match depthsV code with | some _ => 0 | none => 7) := hid (by rw [HE.out, if_pos hc0])
  have HL1 : Hid (l = match depthsV code with | some E => E | none => []) := hid (by rw [HL.out, if_pos hc0])
  have HIN := hid (code_in hc0)
  have HCZ := hid (code_zero hc0)
  have hn64 := HCZ.out.1
  clear HE HL hc0
  have hk2 := HK1.out.alloc (.cells #[.int .i64 (-1)] 3)
  have hb2 := heap_alloc_new w1 (.cells #[.int .i64 (-1)] 3)
  have HK2 := hid hk2; have HB2 := hid hb2
  have hrep := repeat_one (-1) (code.length + 1) w1.heap.size 1 (w1.alloc (.cells #[.int .i64 (-1)] 3)) (by omega) (by omega) hb2
  rw [show ((code.length + 1 : Nat) : Int) = (code.length : Int) + 1 by omega] at hrep
  have HREP := hid hrep
  clear hk2 hb2 hrep
  go_wp2_with fail
  refine HREP.out.mono ?_
  rintro r w3 ⟨dg, dc, rfl, hown3, hk3⟩
  have hk3' := HK2.out.trans hk3
  have HK3 := hid hk3'
  have HO3 := hid (owns_mono hown3 HK2.out.size)
  clear hk3 hown3 HREP hk3'
  obtain ⟨w4, hw4, hb4, hs4, hk4⟩ := box1 w3 #[.slice pc code.length cc, .slice (some ⟨dg, 0, none⟩) (code.length + 1) dc, .slice none 0 0] 76
  have HK4 := hid (HK3.out.trans hk4)
  have hf4 : FlowS w4 w.heap.size w3.heap.size dg pc code.length cc dc (.slice none 0 0) (List.replicate (code.length + 1) (-1)) [] := by
    refine ⟨hb4, ?_, World.ownsRow_nil _ _ _ _, ?_, by simp [Value.ownBlock], by simp [Value.ownBlock], HK3.out.size⟩
    · have h := owns_keep (w' := w4) HO3.out (fun i hi => hk4.block i (HO3.out.lt i hi).2 id)
      rw [List.map_replicate]
      exact h
    · have := (HO3.out.lt dg (by simp [Value.ownBlock])).2; omega
  have HF4 := hid hf4
  clear hb4 hs4 hk4 hf4
  go_upto_region 4 with fail
  rw [← hw4]
  clear hw4
  generalize w3.heap.size = fb at *
  have HFL := hid (flow_reach w.heap.size fb dg pc code.length cc dc (.slice none 0 0) (List.replicate (code.length + 1) (-1)) [] 0 0 w4 (by omega) (by simp) HF4.out)
  rw [start_reach] at HFL
  go_wp2_with fail
  refine HFL.out.mono ?_
  rintro r w5 ⟨hk5, hl5⟩
  rcases hl5 with ⟨h, _⟩ | ⟨E, U, tv, heq, rfl, hf5⟩
  · cases h
  injection heq with heq
  injection heq with h1 h2
  subst h1; subst h2
  have HBS : Hid (∀ k, k < w4.heap.size → (k = fb ∨ k = dg ∨ (Value.slice none 0 0).ownBlock = some k) → w.heap.size ≤ k) := hid (fun k _ h => by
    rcases h with rfl | rfl | h
    · exact HF4.out.low
    · exact HF4.out.dlow
    · simp [Value.ownBlock] at h)
  have HK5 : Hid (Keep (fun _ => False) w w5) := hid ((HK4.out.mono (T := fun g => w.heap.size ≤ g) (fun _ _ h => h.elim)).trans (hk5.mono HBS.out) |>.mono (fun k hk h => by omega))
  have HW5 : Hid (WorkS w w.heap.size fb dg pc code cc dc (code.length + 2) w5) := hid ⟨_, _, _, hf5, start_work code, rfl, by rw [start_seen]; split <;> simp <;> omega, Nat.le_refl _, HK5.out⟩
  clear hk5 hf5 HFL HBS
  go_wp2_with fail
  go_loopw [5] (fun _ wr => ∃ f, WorkS w w.heap.size fb dg pc code cc dc f wr) (fun _ wr => least (fun f => WorkS w w.heap.size fb dg pc code cc dc f wr))
  case atStart => exact ⟨_, HW5.out⟩
  case round =>
    obtain ⟨f0, hf0⟩ := hrel
    obtain ⟨hw, hmin⟩ := least_spec (p := fun f => WorkS w w.heap.size fb dg pc code cc dc f wr) hf0
    obtain ⟨f, hf⟩ : ∃ f, least (fun f => WorkS w w.heap.size fb dg pc code cc dc f wr) = f := ⟨_, rfl⟩
    have HMIN : Hid (least (fun f => WorkS w w.heap.size fb dg pc code cc dc f wr) = f) := hid hf
    rw [hf] at hw
    clear hf hmin hf0
    obtain ⟨D, T, tv, hfl, hwk, hrun, hm, hf2, hkr⟩ := hw
    have HFL := hid hfl; have HWK := hid hwk; have HRUN := hid hrun; have HM := hid hm; have HF2 := hid hf2; have HKR := hid hkr
    obtain ⟨vp, vc, rfl⟩ := owns_val hfl.todo
    clear hfl hwk hrun hm hf2 hkr
    obtain ⟨f', rfl⟩ : ∃ f', f = f' + 1 := ⟨f - 1, by have := HM.out; omega⟩
    rcases List.eq_nil_or_concat T with rfl | ⟨t, i, ht⟩
    · have c2 : wr.cell? ⟨fb, 2, none⟩ = some (.slice vp 0 vc) := cell_of HFL.out.box (by rfl)
      have c1 : wr.cell? ⟨fb, 1, none⟩ = some (.slice (some ⟨dg, 0, none⟩) (code.length + 1) dc) := cell_of HFL.out.box (by rfl)
      have hdv : depthsV code = some D := by rw [← HRUN.out]; rfl
      have G1 : Hid (e = 0) := hid (by rw [HE1.out, hdv])
      have G2 : Hid (l = D) := hid (by rw [HL1.out, hdv])
      have G3 := hid HFL.out.len
      clear hdv
      go_wp2
      (try simp only [Exit.inBlock, Exit.then])
      refine bodyPost_ret (results_2 rfl _) rfl ?_
      rw [G1.out, G2.out, G3.out]
      exact ⟨some ⟨dg, 0, none⟩, dc, rfl, HFL.out.deps, HKR.out⟩
    · rw [List.concat_eq_append] at ht
      subst ht
      have htl : (t ++ [i]).length = t.length + 1 := by rw [List.length_append]; rfl
      have hwi := HWK.out.inn i (by simp)
      obtain ⟨hin_, d, hd⟩ := hwi
      obtain ⟨x, hx⟩ : ∃ x, code[i]? = some x := ⟨code[i], by simp [hin_]⟩
      have hd16 : d ≤ 16 := by
        rcases HWK.out.know.seen i _ hd with h | ⟨d', h, h2, _⟩
        · omega
        · omega
      have htb : t.length ≤ 100 := by have h1 := HM.out; have h2 := HF2.out; rw [htl] at h1; omega
      obtain ⟨tg, rfl⟩ := owns_some HFL.out.todo (by omega)
      have HSTEP := hid (step_spec HIN.out HWK.out)
      have HRUN2 : Hid (depthsV code = match stepF code D t i with | none => none | some (E, u) => runF code f' E u) := hid (by
        rw [← HRUN.out, runF, List.getLast?_concat]
        dsimp only
        rw [List.dropLast_concat]
        cases stepF code D t i with
        | none => rfl
        | some p => rfl)
      have HHK : Hid (x.code = 16 ∨ x.code = 17 → 0 ≤ x.k ∧ x.k ≤ code.length) := hid (good_jump (HCZ.out.2 x (List.mem_of_getElem? hx)))
      have HMB : Hid (t.length + 1 + (code.length + 1 - seenN D) < f' + 1) := hid (by have := HM.out; rwa [htl] at this)
      have HX := hid hx; have HD := hid hd
      have hk1 := (Keep.refl (fun _ => False) wr).drew
      have hf1 := HFL.out.keep hk1
      have HKR1 := hid (HKR.out.trans hk1)
      clear hx hd hk1 HM
      generalize hwd : wr.drew = wd at *
      have c2 : wd.cell? ⟨fb, 2, none⟩ = some (.slice (some ⟨tg, 0, none⟩) (t.length + 1) vc) := by
        rw [← htl]; exact cell_of hf1.box (by rfl)
      have e0 : wd.cell? ⟨tg, t.length, none⟩ = some (iV i) := by
        have h := owns_cell hf1.todo (k := t.length) (by omega)
        rw [h, List.getElem?_map, List.getElem?_append_right (Nat.le_refl _), Nat.sub_self]; rfl
      have HF1 := hid hf1
      clear hf1
      have htm : (0 : Int) ≤ (t.length : Int) ∧ (t.length : Int) < (t.length : Int) + 1 := ⟨by omega, by omega⟩
      have htc : ((t.length + 1 : Nat) : Int) - 1 = (t.length : Int) := by omega
      have htc2 : (t.length : Int) + 1 - 1 = (t.length : Int) := by omega
      have g1 : decide ((0 : Int) < (t.length : Int) + 1) = true := decide_eq_true (by omega)
      have c2r : wr.cell? ⟨fb, 2, none⟩ = some (.slice (some ⟨tg, 0, none⟩) (t.length + 1) vc) := by
        rw [← htl]; exact cell_of HFL.out.box (by rfl)
      go_upto_region 6 with fail
      clear c2r g1
      refine Plan.wp_region_pl [(false, 0, []), (false, 1, []), (false, 2, []), (false, 3, []), (false, 4, []), (false, 5, []), (false, 6, []), (false, 7, []), (false, 8, []), (false, 9, []), (false, 10, []), (false, 11, []), (false, 12, [])] (by as_aux_lemma => kernel_rfl) (by as_aux_lemma => kernel_rfl) ?_
      rw [hwd]
      iterate 13 (refine Plan.pl_st rfl ?_; go_big_quiet_step (fail); refine wpQuiet_nil ?_)
      refine Plan.pl_end ?_
      go_upto_region 7 with fail
      clear c2 e0
      have hk2 := (Keep.refl (fun _ => False) wd).drew
      have hf2 := HF1.out.keep hk2
      have HKR2 := hid (HKR1.out.trans hk2)
      refine Plan.wp_region_pl [(false, 0, []), (false, 1, []), (false, 2, []), (false, 3, []), (false, 4, []), (false, 5, []), (false, 6, []), (false, 7, []), (false, 8, []), (false, 9, []), (false, 10, []), (false, 11, []), (false, 12, []), (false, 13, []), (true, 14, [])] (by as_aux_lemma => kernel_rfl) (by as_aux_lemma => kernel_rfl) ?_
      clear hk2
      generalize wd.drew = we at *
      have c2 : we.cell? ⟨fb, 2, none⟩ = some (.slice (some ⟨tg, 0, none⟩) (t.length + 1) vc) := by
        rw [← htl]; exact cell_of hf2.box (by rfl)
      have fz : we.frozen? ⟨fb, 2, none⟩ = false := free_of hf2.box 2
      have hrm := owns_room2 hf2.todo
      rw [htl] at hrm
      have hsl : (0 : Int) ≤ (0 : Int) ∧ (0 : Int) ≤ (t.length : Int) ∧ (t.length : Int) ≤ (vc : Int) := ⟨by omega, by omega, by omega⟩
      have hown := owns_cut (m := t.length) hf2.todo (by omega) (by simp)
      rw [← List.map_take, List.take_left' rfl] at hown
      have HF6 : Hid (FlowS (we.setCell ⟨fb, 2, none⟩ (.slice (some ⟨tg, 0, none⟩) t.length vc)) w.heap.size fb dg pc code.length cc dc (.slice (some ⟨tg, 0, none⟩) t.length vc) D t) := hid
        ⟨by have h := hsc_same hf2.box 2 (.slice (some ⟨tg, 0, none⟩) t.length vc); simpa using h,
         owns_keep hf2.deps (fun k hk => hsc_ne _ (fun e => by simp [Value.ownBlock] at hk; exact hf2.ne1 (hk.trans e))),
         owns_keep hown (fun k hk => hsc_ne _ (fun e => hf2.ne2 (e ▸ hk))), hf2.ne1, hf2.ne2, hf2.ne3, hf2.low⟩
      have HK6 : Hid (Keep (fun _ => False) w (we.setCell ⟨fb, 2, none⟩ (.slice (some ⟨tg, 0, none⟩) t.length vc))) := hid (HKR2.out.setCell_new (p := ⟨fb, 2, none⟩) hf2.low _)
      clear hown hf2 hrm
      iterate 14 (refine Plan.pl_st rfl ?_; go_big_quiet_step (fail); refine wpQuiet_nil ?_)
      refine Plan.pl_ac rfl ?_
      go_wp2
      refine Plan.plQ_mk Plan.chk_end ?_
      refine Plan.pl_end ?_
      clear c2 fz hsl
      generalize we.setCell ⟨fb, 2, none⟩ (.slice (some ⟨tg, 0, none⟩) t.length vc) = wf at *
      have HST := hid (flow_step w.heap.size fb dg pc cc dc (.slice (some ⟨tg, 0, none⟩) t.length vc) D t code i d x wf HX.out HD.out (by omega) (by omega) (by omega) HHK.out (VP.low HV.out (Low.keep0 HK6.out)) HF6.out)
      have HKK := hid (HK6.out.mono (T := fun g => w.heap.size ≤ g) (fun _ _ h => h.elim))
      go_wp2_with fail
      refine HST.out.mono ?_
      rintro r w7 ⟨hk7, hl7⟩
      have HK7 : Hid (Keep (fun _ => False) w w7) := hid ((HKK.out.trans hk7).mono (fun k hk h => by omega))
      clear hk7
      rcases hl7 with ⟨hn0, rfl⟩ | ⟨E, U, tv', hn0, rfl, hf7⟩
      · have hdv : depthsV code = none := by rw [HRUN2.out, hn0]
        have G1 : Hid (e = 7) := hid (by rw [HE1.out, hdv])
        have G2 : Hid (l = []) := hid (by rw [HL1.out, hdv])
        clear hn0 hdv
        go_wp2
        (try simp only [Exit.inBlock, Exit.then])
        refine bodyPost_ret (results_2 rfl _) rfl ?_
        rw [G1.out, G2.out]
        exact ⟨none, 0, rfl, World.ownsRow_nil _ _ _ _, HK7.out⟩
      · have hw7 : WorkS w w.heap.size fb dg pc code cc dc f' w7 := by
          rcases HSTEP.out with ⟨h, _⟩ | ⟨E', u', h, h2, h3⟩
          · rw [hn0] at h; cases h
          · rw [hn0] at h
            injection h with h
            injection h with h4 h5
            subst h4; subst h5
            refine ⟨E, U, tv', hf7, h2, by rw [HRUN2.out, hn0], ?_, by have := HF2.out; omega, HK7.out⟩
            have h6 : seenN E ≤ code.length + 1 := by have := seenN_le E; rw [h2.know.len] at this; exact this
            have := HMB.out
            omega
        have HW7 := hid hw7
        have HLS := hid ((least_spec (p := fun f => WorkS w w.heap.size fb dg pc code cc dc f w7) hw7).2 f' hw7)
        clear hn0 hf7 hw7
        go_wp2
        go_roundw
        case rel => exact ⟨f', HW7.out⟩
        case measure => rw [HMIN.out]; exact Nat.lt_succ_of_le HLS.out
end Go.Proofs.Ytcbboaoakgngkaa

namespace Go.Proofs.Ytcbboaoakgngkaa
open Go.RowKit Go.Proofs.Heap Go.Proofs.Sch

def idB (i : Int) : Bool := decide (1 ≤ i ∧ i ≤ 24)
theorem is_id (i : Int) (w : World) : Calls Try.prog 68 #[.int .i64 i] w fun r w' => r = .returned (.bool (idB i)) ∧ w = w' := by
  go_enter Try.func68, Try.ntmps68
  unfold idB
  by_cases h1 : (1 : Int) ≤ i
  · have e1 : decide ((1 : Int) ≤ i) = true := decide_eq_true h1
    go_wp2
    go_ret
    refine ⟨?_, rfl⟩
    rw [show decide (1 ≤ i ∧ i ≤ 24) = decide (i ≤ 24) from decide_eq_decide.2 (by omega)]
    rfl
  · have e1 : decide ((1 : Int) ≤ i) = false := decide_eq_false h1
    go_wp2
    go_ret
    exact ⟨by first | rfl | (rw [decide_eq_false (by omega)]; rfl), rfl⟩
def withN (s : Nat) (i : Int) : Nat := if idB i = true then s ||| 2 ^ i.toNat else s
def hasSig (s : Nat) (i : Int) : Bool := idB i && s.testBit i.toNat
def withinB (s t : Nat) : Bool := decide (s &&& 33554430 &&& (4294967295 - t) = 0)

set_option maxRecDepth 20000 in
set_option maxHeartbeats 2000000 in
theorem sig_within (s t : Nat) (hs : s < 4294967296) (ht : t < 4294967296) (w : World) : Calls Try.prog 43 #[.int .u32 (s : Int), .int .u32 (t : Int)] w fun r w' => r = .returned (.bool (withinB s t)) ∧ w = w' := by
  have h1 : bits .and .u32 (s : Int) 33554430 = ((s &&& 33554430 : Nat) : Int) := u32_and_nat s 33554430 hs (by omega)
  have hab : s &&& 33554430 < 4294967296 := Nat.lt_of_le_of_lt Nat.and_le_left hs
  have h2 := u32_andNot_nat (s &&& 33554430) t hab ht
  have G : Hid ((((s &&& 33554430 &&& (4294967295 - t) : Nat) : Int) == 0) = withinB s t) := hid (by
    unfold withinB
    generalize s &&& 33554430 &&& (4294967295 - t) = m
    by_cases h : m = 0
    · subst h; rfl
    · rw [beq_eq_false_iff_ne.2 (by omega), decide_eq_false h])
  generalize s &&& 33554430 &&& (4294967295 - t) = m at *
  generalize s &&& 33554430 = c at *
  go_enter Try.func43, Try.ntmps43
  go_wp2
  go_ret
  exact ⟨by rw [← G.out]; rfl, rfl⟩

set_option maxRecDepth 20000 in
set_option maxHeartbeats 2000000 in
theorem sig_with (s : Nat) (hs : s < 4294967296) (i : Int) (w : World) : Calls Try.prog 69 #[.int .u32 (s : Int), .int .i64 i] w fun r w' => r = .returned (.int .u32 (withN s i : Int)) ∧ w = w' := by
  have HR : Hid (withN s i = if idB i = true then s ||| 2 ^ i.toNat else s) := hid rfl
  generalize withN s i = R at *
  go_enter Try.func69, Try.ntmps69
  go_wp2_with fail
  refine (is_id i _).mono ?_
  rintro r w_ ⟨rfl, rfl⟩
  cases hb : idB i
  · have G : Hid (R = s) := hid (by rw [HR.out, hb]; rfl)
    go_wp2
    go_ret
    exact ⟨by rw [G.out]; rfl, rfl⟩
  have hr : 1 ≤ i ∧ i ≤ 24 := of_decide_eq_true hb
  obtain ⟨k, rfl⟩ := Int.eq_ofNat_of_zero_le (a := i) (by omega)
  have hk : k ≤ 24 := by omega
  have hwk : IntKind.u64.wrap (k : Int) = (k : Int) := wr64 _ (by omega) (by omega)
  have hp : 2 ^ k < 4294967296 := Nat.lt_of_le_of_lt (Nat.pow_le_pow_right (by omega) hk) (by decide : 2 ^ 24 < 4294967296)
  have ho : bits .or .u32 (s : Int) ((2 : Int) ^ k % 4294967296) = ((s ||| 2 ^ k : Nat) : Int) := by
    have h1 : (2 : Int) ^ k % 4294967296 = ((2 ^ k : Nat) : Int) := by
      have h2 : ((2 ^ k : Nat) : Int) = (2 : Int) ^ k := by simp
      rw [← h2]
      exact Int.emod_eq_of_lt (Int.natCast_nonneg _) (Int.ofNat_lt.2 hp)
    rw [h1]
    exact u32_or_nat s (2 ^ k) hs hp
  have G : Hid (R = s ||| 2 ^ k) := hid (by rw [HR.out, if_pos hb]; rfl)
  generalize s ||| 2 ^ k = m at *
  clear hb hr hp
  go_wp2
  go_ret
  exact ⟨by rw [G.out, ← ho]; rfl, rfl⟩

set_option maxRecDepth 20000 in
set_option maxHeartbeats 2000000 in
theorem sig_has (s : Nat) (hs : s < 4294967296) (i : Int) (w : World) : Calls Try.prog 87 #[.int .u32 (s : Int), .int .i64 i] w fun r w' => r = .returned (.bool (hasSig s i)) ∧ w = w' := by
  have HR : Hid (hasSig s i = (idB i && s.testBit i.toNat)) := hid rfl
  generalize hasSig s i = R at *
  go_enter Try.func87, Try.ntmps87
  go_wp2_with fail
  refine (is_id i _).mono ?_
  rintro r w_ ⟨rfl, rfl⟩
  cases hb : idB i
  · have G : Hid (R = false) := hid (by rw [HR.out, hb]; rfl)
    go_wp2
    go_ret
    exact ⟨by rw [G.out]; rfl, rfl⟩
  have hr : 1 ≤ i ∧ i ≤ 24 := of_decide_eq_true hb
  obtain ⟨k, rfl⟩ := Int.eq_ofNat_of_zero_le (a := i) (by omega)
  have hk : k ≤ 24 := by omega
  have hwk : IntKind.u64.wrap (k : Int) = (k : Int) := wr64 _ (by omega) (by omega)
  have HR2 : Hid (R = s.testBit k) := hid (by rw [HR.out, hb]; rfl)
  have hsh : bits .and .u32 ((s : Int) / 2 ^ k) 1 = ((s / 2 ^ k % 2 : Nat) : Int) := by
    have h1 : (s : Int) / 2 ^ k = ((s / 2 ^ k : Nat) : Int) := by simp
    rw [h1]
    have h2 := u32_and_nat (s / 2 ^ k) 1 (Nat.lt_of_le_of_lt (Nat.div_le_self _ _) hs) (by omega)
    rw [Nat.and_one_is_mod] at h2
    exact h2
  have hbt : s.testBit k = decide (s / 2 ^ k % 2 = 1) := Nat.testBit_eq_decide_div_mod_eq
  have G : Hid ((((s / 2 ^ k % 2 : Nat) : Int) == 1) = R) := hid (by
    rw [HR2.out, hbt]
    generalize s / 2 ^ k % 2 = m
    by_cases h : m = 1
    · subst h; rfl
    · rw [beq_eq_false_iff_ne.2 (by omega), decide_eq_false h])
  generalize s / 2 ^ k % 2 = m at *
  clear hb hr HR hbt
  go_wp2
  go_ret
  exact ⟨by rw [← G.out, ← hsh]; rfl, rfl⟩

/-- All components of a list. -/
def orN (l : List Int) : Nat := l.foldl withN 0
theorem withN_lt {s : Nat} (hs : s < 4294967296) (i : Int) : withN s i < 4294967296 := by
  unfold withN
  split
  · rename_i h
    have hr : 1 ≤ i ∧ i ≤ 24 := of_decide_eq_true h
    have hp : 2 ^ i.toNat < 4294967296 := Nat.lt_of_le_of_lt (Nat.pow_le_pow_right (by omega) (by omega : i.toNat ≤ 24)) (by decide : 2 ^ 24 < 4294967296)
    exact Nat.or_lt_two_pow (n := 32) hs hp
  · exact hs
theorem orN_lt : ∀ (l : List Int) (s : Nat), s < 4294967296 → l.foldl withN s < 4294967296
  | [], _, h => h
  | i :: r, _, h => orN_lt r _ (withN_lt h i)
set_option maxRecDepth 20000 in
set_option maxHeartbeats 4000000 in
theorem sig_of (l : List Int) (g : Option Addr) (c : Nat) (base : Nat) (w : World) (hl : l.length ≤ 65536) (hall : ∀ i ∈ l, idB i = true) (hr : w.ownsRow base 3 1 (.slice g l.length c) l.length (l.map iZ)) :
    Calls Try.prog 41 #[.slice g l.length c] w fun r w' => r = .returned (.tuple #[.int .u32 (orN l : Int), iV 0]) ∧ w = w' := by
  have HROW := hid hr; have HALL := hid hall
  clear hr hall
  go_enter Try.func41, Try.ntmps41
  go_wp2_with fail
  go_loopw [4, 6, 9] (fun s _ i wr => ∃ k : Nat, k ≤ l.length ∧ i = iV k ∧ s = .int .u32 (((l.take k).foldl withN 0 : Nat) : Int) ∧ w = wr) (fun _ _ i _ => l.length + 1 - (intOf i).toNat)
  case atStart => exact ⟨0, by omega, rfl, rfl, rfl⟩
  case round =>
    obtain ⟨k, hk, rfl, rfl, rfl⟩ := hrel
    by_cases hlt : k < l.length
    · obtain ⟨i, hi⟩ : ∃ i, l[k]? = some i := ⟨l[k], by simp [hlt]⟩
      obtain ⟨gg, rfl⟩ := owns_some HROW.out (by omega)
      have c0 : w.cell? ⟨gg, k, none⟩ = some (.int .i64 i) := by rw [owns_cell HROW.out hlt, List.getElem?_map, hi]; rfl
      have hin : (0 : Int) ≤ (k : Int) ∧ (k : Int) < (l.length : Int) := ⟨by omega, by omega⟩
      have HID := hid (HALL.out i (List.mem_of_getElem? hi))
      have HN : Hid ((l.take (k + 1)).foldl withN 0 = withN ((l.take k).foldl withN 0) i) := hid (by rw [take_next hi, List.foldl_append]; rfl)
      have HLT := hid (orN_lt (l.take k) 0 (by omega))
      generalize (l.take k).foldl withN 0 = s at *
      clear hi
      go_wp2_with fail
      refine (is_id i _).mono ?_
      rintro r w_ ⟨rfl, rfl⟩
      rw [HID.out]
      go_wp2_with fail
      refine (sig_with s HLT.out i _).mono ?_
      rintro r w_ ⟨rfl, rfl⟩
      rw [← HN.out]
      go_wp2
      go_roundw
      case rel => exact ⟨k + 1, by omega, by go_num, rfl, by first | rfl | trivial⟩
      case measure => simp [intOf]; omega
    · obtain rfl : k = l.length := by omega
      have g1 : decide ((l.length : Int) < (l.length : Int)) = false := decide_eq_false (by omega)
      have g2 : decide (l.length < l.length) = false := decide_eq_false (by omega)
      rw [List.take_length]
      go_wp2
      (try simp only [Exit.inBlock, Exit.then])
      refine bodyPost_ret (results_2 rfl _) rfl ?_
      exact ⟨rfl, rfl⟩
end Go.Proofs.Ytcbboaoakgngkaa

namespace Go.Proofs.Ytcbboaoakgngkaa
open Go.RowKit Go.Proofs.Heap Go.Proofs.Sch

def ApartC (a b : Cmp) : Prop := a.id < b.id ∧ a.name ≠ b.name
/-- What Check asks of the components. -/
def GoodC (last : Int) (seen : List ByteArray) (cs : List Cmp) : Prop :=
  (∀ c ∈ cs, last < c.id ∧ c.id ≤ 24 ∧ nameB c.name = true ∧ memB c.name seen = false ∧ fieldsC c.fs = 0) ∧ cs.Pairwise ApartC

theorem memB_snoc (s m : ByteArray) (ns : List ByteArray) : memB s (ns ++ [m]) = false ↔ memB s ns = false ∧ s ≠ m := by
  unfold memB
  rw [List.any_append]
  simp [Bool.or_eq_false_iff]

theorem compsC_iff : ∀ (cs : List Cmp) (last : Int) (seen : List ByteArray), compsC last seen cs = 0 ↔ GoodC last seen cs
  | [], last, seen => by simp [compsC, GoodC]
  | c :: r, last, seen => by
    unfold compsC
    have ih := compsC_iff r c.id (seen ++ [c.name])
    by_cases h1 : c.id ≤ last ∨ 24 < c.id
    · rw [if_pos h1]
      refine ⟨fun h => by omega, fun h => ?_⟩
      have := h.1 c (List.mem_cons_self ..)
      omega
    rw [if_neg h1]
    by_cases h2 : nameB c.name = false ∨ memB c.name seen = true
    · rw [if_pos h2]
      refine ⟨fun h => by omega, fun h => ?_⟩
      have h3 := h.1 c (List.mem_cons_self ..)
      rcases h2 with e | e
      · rw [e] at h3; simp at h3
      · rw [e] at h3; simp at h3
    rw [if_neg h2]
    by_cases h3 : fieldsC c.fs = 0
    · rw [if_pos h3, ih]
      have hn : nameB c.name = true := by
        cases e : nameB c.name
        · exact absurd (.inl e) h2
        · rfl
      have hm : memB c.name seen = false := by
        cases e : memB c.name seen
        · rfl
        · exact absurd (.inr e) h2
      constructor
      · rintro ⟨ha, hp⟩
        refine ⟨fun d hd => ?_, List.pairwise_cons.2 ⟨fun d hd => ?_, hp⟩⟩
        · rcases List.mem_cons.1 hd with rfl | hd
          · exact ⟨by omega, by omega, hn, hm, h3⟩
          · obtain ⟨a1, a2, a3, a4, a5⟩ := ha d hd
            exact ⟨by omega, a2, a3, ((memB_snoc _ _ _).1 a4).1, a5⟩
        · obtain ⟨a1, _, _, a4, _⟩ := ha d hd
          exact ⟨a1, fun e => ((memB_snoc _ _ _).1 a4).2 e.symm⟩
      · rintro ⟨ha, hp⟩
        obtain ⟨hp1, hp2⟩ := List.pairwise_cons.1 hp
        refine ⟨fun d hd => ?_, hp2⟩
        obtain ⟨_, a2, a3, a4, a5⟩ := ha d (List.mem_cons_of_mem _ hd)
        exact ⟨(hp1 d hd).1, a2, a3, (memB_snoc _ _ _).2 ⟨a4, fun e => (hp1 d hd).2 e.symm⟩, a5⟩
    · rw [if_neg h3]
      exact ⟨fun h => absurd h h3, fun h => absurd (h.1 c (List.mem_cons_self ..)).2.2.2.2 h3⟩

/-- A schema that can be. -/
def GoodS (v : Int) (cs : List Cmp) : Prop := (1 ≤ v ∧ v ≤ 1073741824) ∧ GoodC 0 [] cs
theorem checkC_iff (v : Int) (cs : List Cmp) : checkC v cs = 0 ↔ GoodS v cs := by
  unfold checkC GoodS
  by_cases h : v < 1 ∨ 1073741824 < v
  · rw [if_pos h]
    exact ⟨fun h => by omega, fun h => by omega⟩
  · rw [if_neg h, compsC_iff]
    exact ⟨fun hg => ⟨by omega, hg⟩, fun hg => hg.2⟩
theorem GoodC.sub {last : Int} {seen : List ByteArray} {cs ds : List Cmp} (h : GoodC last seen cs) (hs : ds.Sublist cs) : GoodC last seen ds :=
  ⟨fun c hc => h.1 c (hs.subset hc), h.2.sublist hs⟩
theorem checkC_less {v : Int} {cs : List Cmp} (h : checkC v cs = 0) (k : Nat) : checkC v (cs.take k ++ cs.drop (k + 1)) = 0 := by
  rw [checkC_iff] at h ⊢
  refine ⟨h.1, h.2.sub ?_⟩
  have h1 : (cs.take k ++ cs.drop (k + 1)).Sublist (cs.take k ++ cs.drop k) := by
    refine List.Sublist.append (List.Sublist.refl _) ?_
    rw [← List.drop_drop]
    exact List.drop_sublist _ _
  rwa [List.take_append_drop] at h1

/-- What differs from all that came earlier is found where it is. -/
theorem pair_idx {α β : Type} [DecidableEq β] (f : α → β) {l : List α} (h : l.Pairwise (fun a b => f a ≠ f b)) {k : Nat} {x : α} (hk : l[k]? = some x) : idxI (fun y => decide (f y = f x)) l = (k : Int) := by
  refine idx_at hk (decide_eq_true rfl) (fun y hy => decide_eq_false ?_)
  obtain ⟨i, hi⟩ := List.getElem?_of_mem hy
  have hlt := (List.getElem?_eq_some_iff.1 hi).1
  rw [List.length_take] at hlt
  rw [List.getElem?_take_of_lt (by omega)] at hi
  obtain ⟨h1, rfl⟩ := List.getElem?_eq_some_iff.1 hi
  obtain ⟨h2, rfl⟩ := List.getElem?_eq_some_iff.1 hk
  exact (List.pairwise_iff_getElem.1 h) i k h1 h2 (by omega)
theorem GoodS.id_idx {v : Int} {cs : List Cmp} (h : GoodS v cs) {k : Nat} {c : Cmp} (hk : cs[k]? = some c) : idxI (fun y => decide (y.id = c.id)) cs = (k : Int) :=
  pair_idx Cmp.id (h.2.2.imp fun hab => by have := hab.1; omega) hk
theorem GoodS.name_idx {v : Int} {cs : List Cmp} (h : GoodS v cs) {k : Nat} {c : Cmp} (hk : cs[k]? = some c) : idxI (fun y => decide (y.name = c.name)) cs = (k : Int) :=
  pair_idx Cmp.name (h.2.2.imp fun hab => hab.2) hk

theorem fldBad_iff : ∀ (fs : List Fld) (seen : List ByteArray), fldBad seen fs = false → (∀ f ∈ fs, nameB f.name = true ∧ memB f.name seen = false) ∧ fs.Pairwise (fun a b => a.name ≠ b.name)
  | [], _, _ => ⟨fun _ h => by simp at h, .nil⟩
  | f :: r, seen, h => by
    unfold fldBad at h
    simp only [Bool.or_eq_false_iff, Bool.not_eq_false'] at h
    obtain ⟨h1, h2, h3⟩ := h
    obtain ⟨ha, hp⟩ := fldBad_iff r _ h3
    refine ⟨fun d hd => ?_, List.pairwise_cons.2 ⟨fun d hd => ?_, hp⟩⟩
    · rcases List.mem_cons.1 hd with rfl | hd
      · exact ⟨h1, h2⟩
      · exact ⟨(ha d hd).1, ((memB_snoc _ _ _).1 (ha d hd).2).1⟩
    · exact fun e => ((memB_snoc _ _ _).1 (ha d hd).2).2 e.symm
theorem fieldsC_zero {fs : List Fld} (h : fieldsC fs = 0) : fldBad [] fs = false ∧ layC fs = 0 := by
  unfold fieldsC at h
  cases e : fldBad [] fs
  · rw [e] at h; simp at h; exact ⟨rfl, h⟩
  · rw [e] at h; simp at h
theorem GoodS.field_idx {v : Int} {cs : List Cmp} (h : GoodS v cs) {c : Cmp} (hc : c ∈ cs) {j : Nat} {f : Fld} (hj : c.fs[j]? = some f) : idxI (fun y : Fld => decide (y.name = f.name)) c.fs = (j : Int) :=
  pair_idx Fld.name (fldBad_iff _ _ (fieldsC_zero (h.2.1 c hc).2.2.2.2).1).2 hj
end Go.Proofs.Ytcbboaoakgngkaa
