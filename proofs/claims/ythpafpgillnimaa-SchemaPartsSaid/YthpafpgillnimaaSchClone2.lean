/- What is proved: what cloning a schema makes: a schema of its own rows. -/
import Derived.Test.YthpafpgillnimaaSchClone
namespace Go.Proofs.Ythpafpgillnimaa
open Go.RowKit Go.Proofs.Heap Go.Proofs.Sch

/-- The clone under way. -/
structure CL (w wr : World) (v : Int) (n c : Nat) (p : Option Addr) (nw od : List Cv) : Prop where
  k : Keep (fun _ => False) w wr
  b1 : wr.heap[w.heap.size]? = some (.cells #[.int .i64 v, .slice p n c] 24 (0, 0))
  b2 : wr.heap[w.heap.size + 1]? = some (.cells #[.int .i64 0, .slice none 0 0] 24 (0, 0))
  row : wr.ownsRow (w.heap.size + 2) 34 3 (.slice p n c) n ((nw ++ od.drop nw.length).flatMap ccl)
  fld : ∀ (i : Nat) (x : Cv), nw[i]? = some x → wr.ownsRow (w.heap.size + 2) 41 3 (.slice x.2.1 x.1.fs.length x.2.2) x.1.fs.length (x.1.fs.flatMap fcl)
  dis : ∀ (i j : Nat) (x y : Cv) (q z : Addr), i < j → nw[i]? = some x → nw[j]? = some y → x.2.1 = some q → y.2.1 = some z → q.block ≠ z.block
  row_ne : ∀ (i : Nat) (x : Cv) (q z : Addr), nw[i]? = some x → x.2.1 = some q → p = some z → q.block ≠ z.block

theorem own_blk {p : Option Addr} {n c : Nat} {q : Addr} (h : p = some q) : (Value.slice p n c).ownBlock = some q.block := by subst h; rfl

theorem CL.keep0 {w wr w' : World} {v : Int} {n c : Nat} {p : Option Addr} {nw od : List Cv} (h : CL w wr v n c p nw od) (hk : Keep (fun _ => False) wr w') : CL w w' v n c p nw od :=
  ⟨h.k.trans hk, hk.get h.b1 (fun h => h), hk.get h.b2 (fun h => h), owns_keep h.row (fun q hq => hk.block q (h.row.lt q hq).2 (fun h => h)), fun i x hx => owns_keep (h.fld i x hx) (fun q hq => hk.block q ((h.fld i x hx).lt q hq).2 (fun h => h)), h.dis, h.row_ne⟩

theorem CL.step {w wr y : World} {v : Int} {n c g : Nat} {nw od : List Cv} {x : Cv} {p2 : Option Addr} {c2 : Nat} (h : CL w wr v n c (some ⟨g, 0, none⟩) nw od) (hx : od[nw.length]? = some x) (hk : Keep (fun _ => False) wr y)
    (ho : y.ownsRow wr.heap.size 41 3 (.slice p2 x.1.fs.length c2) x.1.fs.length (x.1.fs.flatMap fcl)) :
    CL w (y.setCell ⟨g, nw.length * 3 + 2, none⟩ (.slice p2 x.1.fs.length c2)) v n c (some ⟨g, 0, none⟩) (nw ++ [(x.1, p2, c2)]) od := by
  have h2 := h.keep0 hk
  have hs := h.k.size
  have hb2 := lt_of_heap h.b2
  have hg := h.row.lt g rfl
  have hgy := h2.row.lt g rfl
  have hlen : (nw ++ [(x.1, p2, c2)]).length = nw.length + 1 := by simp
  refine ⟨h2.k.setCell_new (by simp; omega) _, (hsc_ne _ (by omega)).trans h2.b1, (hsc_ne _ (by omega)).trans h2.b2, ?_, ?_, ?_, ?_⟩
  · have hr := owns_set3 h2.row (nw.length * 3 + 2) (.slice p2 x.1.fs.length c2)
    rw [drop_next hx, flat_set2] at hr
    rw [hlen]
    exact hr
  · intro i z hz
    by_cases hi : i < nw.length
    · rw [List.getElem?_append_left hi] at hz
      refine owns_keep (h2.fld i z hz) (fun q hq => hsc_ne _ (fun e => ?_))
      subst e
      cases hp : z.2.1 with
      | none => rw [hp] at hq; simp [Value.ownBlock] at hq
      | some a =>
        rw [own_blk hp] at hq
        injection hq with hq
        exact h2.row_ne i z a ⟨q, 0, none⟩ hz hp rfl hq
    · rw [List.getElem?_append_right (by omega)] at hz
      have hi0 : i - nw.length = 0 := by
        have := (List.getElem?_eq_some_iff.1 hz).1
        simp at this; omega
      rw [hi0] at hz
      injection hz with hz
      subst hz
      exact owns_mono (owns_keep ho (fun q hq => hsc_ne _ (by have := (ho.lt q hq).1; omega))) (by omega)
  · intro i j z z' q q' hij hz hz' hq hq'
    have hj := (List.getElem?_eq_some_iff.1 hz').1
    rw [hlen] at hj
    have hi : i < nw.length := by omega
    rw [List.getElem?_append_left hi] at hz
    by_cases hj2 : j < nw.length
    · rw [List.getElem?_append_left hj2] at hz'
      exact h.dis i j z z' q q' hij hz hz' hq hq'
    · rw [List.getElem?_append_right (by omega), show j - nw.length = 0 by omega] at hz'
      injection hz' with hz'
      subst hz'
      have h3 := ((h.fld i z hz).lt q.block (own_blk hq)).2
      have h4 := (ho.lt q'.block (own_blk hq')).1
      omega
  · intro i z q q' hz hq hq'
    injection hq' with hq'
    subst hq'
    by_cases hi : i < nw.length
    · rw [List.getElem?_append_left hi] at hz
      exact h.row_ne i z q _ hz hq rfl
    · rw [List.getElem?_append_right (by omega)] at hz
      have hi0 : i - nw.length = 0 := by
        have := (List.getElem?_eq_some_iff.1 hz).1
        simp at this; omega
      rw [hi0] at hz
      injection hz with hz
      subst hz
      have h4 := (ho.lt q.block (own_blk hq)).1
      simp only
      omega

set_option maxRecDepth 20000 in
set_option maxHeartbeats 2000000 in
theorem sch_clone (v : Int) (cs : List Cmp) (p : Option Addr) (cap : Nat) (w : World) (hl : Small cs) (hf : CP w w.heap.size p cs) :
    Calls Try.prog 24 #[.agg #[.int .i64 v, .slice p cs.length cap]] w fun r w' => ∃ p' c' vs, r = .returned (.agg #[.int .i64 v, .slice p' cs.length c']) ∧ cs.length ≤ c' ∧ vs.map (·.1) = cs ∧ Own w' w.heap.size p' c' vs ∧ Keep (fun _ => False) w w' := by
  have hl1 := hl.1
  have HL := hid hl.2
  have hk0 := ((Keep.refl (fun _ => False) w).alloc (.cells #[.int .i64 v, .slice p cs.length cap] 24)).alloc (.cells #[.int .i64 0, .slice none 0 0] 24)
  have hb1 := ((Keep.refl (fun _ => False) (w.alloc (.cells #[.int .i64 v, .slice p cs.length cap] 24))).alloc (.cells #[.int .i64 0, .slice none 0 0] 24)).get (heap_alloc_new w (.cells #[.int .i64 v, .slice p cs.length cap] 24)) id
  have hb2 := heap_alloc_new (w.alloc (.cells #[.int .i64 v, .slice p cs.length cap] 24)) (.cells #[.int .i64 0, .slice none 0 0] 24)
  have hsz : (w.alloc (.cells #[.int .i64 v, .slice p cs.length cap] 24)).heap.size = w.heap.size + 1 := by simp
  have hsz2 : ((w.alloc (.cells #[.int .i64 v, .slice p cs.length cap] 24)).alloc (.cells #[.int .i64 0, .slice none 0 0] 24)).heap.size = w.heap.size + 2 := by simp
  rw [hsz] at hb2
  have HF := hid (CP.low hf (Low.keep0 hk0))
  have HK0 := hid hk0; have HB1 := hid hb1; have HB2 := hid hb2
  clear hl hf hb1 hb2 hk0 hsz
  go_enter Try.func24, Try.ntmps24
  go_upto_region 1 with fail
  generalize (w.alloc (.cells #[.int .i64 v, .slice p cs.length cap] 24)).alloc (.cells #[.int .i64 0, .slice none 0 0] 24) = w0 at *
  have d1 : w0.cell? ⟨w.heap.size, 1, none⟩ = some (.slice p cs.length cap) := cell_of HB1.out (by rfl)
  go_wp2_with fail
  refine (clone_comps cs p cap _ _ hl1 HF.out).mono ?_
  rintro r w1 ⟨p', c', vs, rfl, hc, hvs, hcv, hown, hk1⟩
  have hB1 := hk1.get HB1.out (fun h => h)
  have hB2 := hk1.get HB2.out (fun h => h)
  have hvl : vs.length = cs.length := by rw [← hvs, List.length_map]
  have hrow : (w1.setCell ⟨w.heap.size, 1, none⟩ (.slice p' cs.length c')).ownsRow (w.heap.size + 2) 34 3 (.slice p' cs.length c') cs.length (vs.flatMap ccl) :=
    owns_mono (owns_keep hown (fun q hq => hsc_ne _ (by have := (hown.lt q hq).1; omega))) (by omega)
  have hCL : CL w (w1.setCell ⟨w.heap.size, 1, none⟩ (.slice p' cs.length c')) v cs.length c' p' [] vs :=
    ⟨(HK0.out.trans hk1).setCell_new (by simp) _, (hsc_same hB1 1 _).trans rfl, (hsc_ne _ (by omega)).trans hB2, hrow, fun i x hx => by simp at hx, fun i j x y q z _ hx => by simp at hx, fun i x q z hx => by simp at hx⟩
  have hcv2 : CV w w.heap.size vs := hcv.low (fun b hb => ((Low.keep0 HK0.out) b hb).symm)
  have hc1 : w1.cell? ⟨w.heap.size, 1, none⟩ = some (.slice p cs.length cap) := cell_of hB1 (by rfl)
  have hfz := free_of hB1 1
  have HCL := hid hCL; have HVS := hid hvs; have HCV := hid hcv2; have HC := hid hc
  clear hCL hrow hB1 hB2 hown hk1 hcv hvs hcv2 hc d1
  go_wp2_with fail
  clear hc1 hfz
  go_loopw [3, 11] (fun _ i wr => ∃ (k : Nat) (nw : List Cv), k ≤ cs.length ∧ i = iV k ∧ nw.length = k ∧ nw.map (·.1) = cs.take k ∧ CL w wr v cs.length c' p' nw vs) (fun _ i _ => cs.length + 1 - (intOf i).toNat)
  case atStart => exact ⟨0, [], by omega, rfl, rfl, rfl, HCL.out⟩
  case round =>
    clear HCL
    obtain ⟨k, nw, hk, rfl, hnl, hnm, hP⟩ := hrel
    have HP := hid hP; have HN := hid hnm
    clear hP hnm
    by_cases hlt : k < cs.length
    · have hrow := HP.out.row
      obtain ⟨g, rfl⟩ := owns_some hrow (by omega)
      obtain ⟨x, hx⟩ : ∃ x, vs[k]? = some x := ⟨vs[k]'(by omega), by simp [show k < vs.length by omega]⟩
      have hck : cs[k]? = some x.1 := by rw [← HVS.out, List.getElem?_map, hx]; rfl
      have hxl := HL.out x.1 (List.mem_of_getElem? hck)
      have hin : (0 : Int) ≤ (k : Int) ∧ (k : Int) < (cs.length : Int) := ⟨by omega, by omega⟩
      have hPd := HP.out.keep0 ((Keep.refl (fun _ => False) wr).drew)
      have hcell : ∀ y, CL w y v cs.length c' (some ⟨g, 0, none⟩) nw vs → y.cell? ⟨g, k * 3 + 2, none⟩ = some (.slice x.2.1 x.1.fs.length x.2.2) := by
        intro y hy
        have hi : (nw ++ vs.drop nw.length)[k]? = some x := by
          rw [List.getElem?_append_right (by omega), hnl, Nat.sub_self, drop_next hx]; rfl
        exact owns3_cell ccl_len hy.row hi (r := 2) rfl
      have d0 := hcell _ hPd
      have d1 : wr.drew.cell? ⟨w.heap.size, 1, none⟩ = some (.slice (some ⟨g, 0, none⟩) cs.length c') := cell_of hPd.b1 (by rfl)
      have hff := ((HCV.out.low (Low.keep0 hPd.k)) x (List.mem_of_getElem? hx)).2
      have HFF := hid (FP.mono hff hPd.k.size)
      have HX := hid hx; have HCK := hid hck; have HC2 := hid hcell
      have HPD := hid hPd
      clear hrow hx hck hPd hcell hff HP
      go_wp2_with fail
      refine Plan.wp_region_pl [(false, 0, []), (false, 1, []), (false, 2, []), (false, 3, []), (false, 4, []), (false, 5, []), (false, 6, []), (false, 7, []), (false, 8, []), (true, 9, [2, 1, 0]), (false, 10, []), (false, 11, []), (true, 12, [])] (by kernel_rfl) (by kernel_rfl) ?_
      repeat (refine Plan.pl_st rfl ?_; go_big_quiet_step (fail); refine wpQuiet_nil ?_)
      refine Plan.pl_ac rfl ?_
      go_wp2_with fail
      refine (clone_fields x.1.fs x.2.1 x.2.2 _ hxl HFF.out).mono ?_
      rintro r y ⟨p2, c2, rfl, hc2, hown, hk1⟩
      have hPy := HPD.out.keep0 hk1
      have e1 : y.cell? ⟨w.heap.size, 1, none⟩ = some (.slice (some ⟨g, 0, none⟩) cs.length c') := cell_of hPy.b1 (by rfl)
      have e2 := HC2.out _ hPy
      have e3 := owns_free hPy.row (k * 3 + 2)
      have hst := CL.step HPD.out (x := x) (p2 := p2) (c2 := c2) (by rw [hnl]; exact HX.out) hk1 hown
      rw [hnl] at hst
      have HST := hid hst
      clear hk1 hown hPy d0 d1 hst
      go_wp2
      refine Plan.plQ_mk ?_ ?_
      · repeat (refine Plan.chk_st rfl ?_ ?_; focus (go_big_quiet_step (fail); exact wpQuiet_nil rfl))
        exact Plan.chk_end
      repeat (refine Plan.pl_st rfl ?_; go_big_quiet_step (fail); refine wpQuiet_nil ?_)
      refine Plan.pl_ac rfl ?_
      go_wp2
      refine Plan.plQ_mk ?_ ?_
      · exact Plan.chk_end
      refine Plan.pl_end ?_
      go_wp2
      go_roundw
      case rel => exact ⟨k + 1, nw ++ [(x.1, p2, c2)], by omega, by go_num, by simp [hnl], by rw [List.map_append, HN.out, take_next HCK.out]; rfl, HST.out⟩
      case measure => simp [intOf]; omega
    · obtain rfl : k = cs.length := by omega
      have d1 := cell_of HP.out.b1 (i := 0) (by rfl)
      have d2 := cell_of HP.out.b1 (i := 1) (by rfl)
      have d3 := cell_of HP.out.b2 (i := 0) (by rfl)
      have d4 := cell_of HP.out.b2 (i := 1) (by rfl)
      have f1 := free_of HP.out.b2 0
      have f2 := free_of HP.out.b2 1
      go_wp2
      (try simp only [Exit.inBlock, Exit.then])
      have hr := cells2 (.int .i64 v) (.slice p' cs.length c') HP.out.b2
      refine bodyPost_ret (results_c rfl _ rfl (run_loadVar_row _ (w.heap.size + 1) _ 24 _ _ _ hr Try.underlying24 rfl (by kernel_rfl))) rfl ?_
      have hk := (HP.out.k.setCell_new (p := ⟨w.heap.size + 1, 0, none⟩) (by simp) (.int .i64 v)).setCell_new (p := ⟨w.heap.size + 1, 1, none⟩) (by simp) (.slice p' cs.length c')
      have hne : ∀ q, q ≠ w.heap.size + 1 → ((wr.setCell ⟨w.heap.size + 1, 0, none⟩ (.int .i64 v)).setCell ⟨w.heap.size + 1, 1, none⟩ (.slice p' cs.length c')).heap[q]? = wr.heap[q]? := fun q hq => by rw [hsc_ne _ hq, hsc_ne _ hq]
      have hrow := HP.out.row
      rw [show vs.drop nw.length = [] by rw [hnl]; exact List.drop_of_length_le (by omega), List.append_nil] at hrow
      have hnm : nw.map (·.1) = cs := by have := HN.out; rwa [List.take_length] at this
      refine ⟨p', c', nw, rfl, HC.out, hnm, ⟨?_, fun i x hx => ?_, HP.out.dis, HP.out.row_ne⟩, hk⟩
      · rw [hnl]
        exact owns_mono (owns_keep hrow (fun q hq => hne q (by have := (hrow.lt q hq).1; omega))) (by omega)
      · have hf := HP.out.fld i x hx
        exact owns_mono (owns_keep hf (fun q hq => hne q (by have := (hf.lt q hq).1; omega))) (by omega)

/-- A cloned schema is a row of components. -/
theorem Own.cp {w : World} {base : Nat} {p : Option Addr} {c : Nat} {vs : List Cv} (h : Own w base p c vs) : CP w w.heap.size p (vs.map (·.1)) := by
  refine cp_own rfl h.row (fun x hx => ?_)
  obtain ⟨i, hi⟩ := List.getElem?_of_mem hx
  have hf := h.fld i x hi
  exact ⟨owns_room hf, fp_own rfl hf⟩

end Go.Proofs.Ythpafpgillnimaa
