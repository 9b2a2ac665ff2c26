/- What is proved: what the reference's Check of a schema answers: what the program's Check answers. -/
import Derived.Test.YtcbboaoakgngkaaMVfOpenSys
import Derived.Test.YtcbboaoakgngkaaMVf3
import Derived.Test.YtcbboaoakgngkaaMSchFind2
import Derived.Test.YtcbboaoakgngkaaMRegion
namespace Go.Proofs.Ytcbboaoakgngkaa
open Go.RowKit Go.Proofs.Heap Go.Proofs.Sch

theorem compsC_cons (last : Int) (seen : List ByteArray) (c : Cmp) (r : List Cmp) : compsC last seen (c :: r) = if c.id ≤ last ∨ 24 < c.id then 1 else if nameB c.name = false ∨ memB c.name seen = true then 4 else if fieldsC c.fs = 0 then compsC c.id (seen ++ [c.name]) r else fieldsC c.fs := rfl
theorem memB_no {s : ByteArray} {α : Type} {l : List α} {g : α → ByteArray} (h : ∀ d ∈ l, g d ≠ s) : memB s (l.map g) = false := by
  unfold memB
  rw [List.any_eq_false]
  intro m hm
  obtain ⟨d, hd, rfl⟩ := List.mem_map.1 hm
  simpa using fun e : s = g d => h d hd e.symm
theorem memB_yes {s : ByteArray} {α : Type} {l : List α} {g : α → ByteArray} {d : α} (hd : d ∈ l) (h : g d = s) : memB s (l.map g) = true := by
  unfold memB
  exact List.any_eq_true.2 ⟨g d, List.mem_map.2 ⟨d, hd, rfl⟩, decide_eq_true h.symm⟩

/-- Check under way: k components can be. -/
structure CK (v : Int) (cs : List Cmp) (k : Nat) (lst : Int) : Prop where
  eq : checkC v cs = compsC lst ((cs.take k).map Cmp.name) (cs.drop k)
  nn : 0 ≤ lst
  at0 : k = 0 → lst = 0
  pre : ∀ j, k = j + 1 → ∃ d, cs[j]? = some d ∧ d.id = lst

theorem CK.bad1 {v : Int} {cs : List Cmp} {k : Nat} {lst : Int} {c : Cmp} (h : CK v cs k lst) (hc : cs[k]? = some c) (hb : c.id ≤ lst ∨ 24 < c.id) : checkC v cs = 1 := by
  rw [h.eq, drop_next hc, compsC_cons, if_pos hb]
theorem CK.bad4 {v : Int} {cs : List Cmp} {k : Nat} {lst : Int} {c : Cmp} (h : CK v cs k lst) (hc : cs[k]? = some c) (hb : ¬ (c.id ≤ lst ∨ 24 < c.id)) (hn : nameB c.name = false ∨ memB c.name ((cs.take k).map Cmp.name) = true) : checkC v cs = 4 := by
  rw [h.eq, drop_next hc, compsC_cons, if_neg hb, if_pos hn]
theorem CK.badF {v : Int} {cs : List Cmp} {k : Nat} {lst : Int} {c : Cmp} (h : CK v cs k lst) (hc : cs[k]? = some c) (hb : ¬ (c.id ≤ lst ∨ 24 < c.id)) (hn : ¬ (nameB c.name = false ∨ memB c.name ((cs.take k).map Cmp.name) = true)) (hf : fieldsC c.fs ≠ 0) : checkC v cs = fieldsC c.fs := by
  rw [h.eq, drop_next hc, compsC_cons, if_neg hb, if_neg hn, if_neg hf]
theorem CK.next {v : Int} {cs : List Cmp} {k : Nat} {lst : Int} {c : Cmp} (h : CK v cs k lst) (hc : cs[k]? = some c) (hb : ¬ (c.id ≤ lst ∨ 24 < c.id)) (hn : ¬ (nameB c.name = false ∨ memB c.name ((cs.take k).map Cmp.name) = true)) (hf : fieldsC c.fs = 0) : CK v cs (k + 1) c.id := by
  refine ⟨?_, by have := h.nn; omega, fun e => by omega, fun j hj => ⟨c, by rw [show j = k by omega]; exact hc, rfl⟩⟩
  rw [h.eq, drop_next hc, compsC_cons, if_neg hb, if_neg hn, if_pos hf, take_next hc, List.map_append]
  rfl
theorem CK.end {v : Int} {cs : List Cmp} {lst : Int} (h : CK v cs cs.length lst) : checkC v cs = 0 := by
  rw [h.eq, List.drop_length]; rfl
theorem fldBad_cons (seen : List ByteArray) (f : Fld) (r : List Fld) : fldBad seen (f :: r) = (!nameB f.name || (memB f.name seen || fldBad (seen ++ [f.name]) r)) := rfl

set_option maxRecDepth 20000 in
set_option maxHeartbeats 8000000 in
theorem r_check (v : Int) (cs : List Cmp) (p : Option Addr) (cap : Nat) (w : World) (hl : Small cs) (hf : CP w w.heap.size p cs) :
    Calls Try.prog 35 #[.agg #[.int .i64 v, .slice p cs.length cap]] w fun r w' => r = .returned (iV (checkC v cs)) ∧ Keep (fun _ => False) w w' := by
  have hk0 := (Keep.refl (fun _ => False) w).alloc (.cells #[.int .i64 v, .slice p cs.length cap] 36)
  have HB0 := hid (heap_alloc_new w (.cells #[.int .i64 v, .slice p cs.length cap] 36))
  have HF0 := hid (CP.mono (CP.low hf (Low.keep0 hk0)) hk0.size)
  have HK0 := hid hk0
  have hl65 := hl.1
  have HSM := hid hl
  clear hf hk0 hl
  go_enter Try.func35, Try.ntmps35
  go_upto_region 1 with fail
  generalize w.alloc (.cells #[.int .i64 v, .slice p cs.length cap] 36) = w0 at *
  generalize w.heap.size = sb at *
  have HS : Hid (∀ wy, Keep (fun _ => False) w0 wy → wy.cell? ⟨sb, 0, none⟩ = some (.int .i64 v) ∧ wy.cell? ⟨sb, 1, none⟩ = some (.slice p cs.length cap)) := hid (fun wy hk => ⟨cell_of (hk.get HB0.out (fun h => h)) (by rfl), cell_of (hk.get HB0.out (fun h => h)) (by rfl)⟩)
  have HC : Hid (∀ wy, Keep (fun _ => False) w0 wy → CP wy wy.heap.size p cs) := hid (fun wy hk => CP.mono (CP.low HF0.out (Low.keep0 hk)) hk.size)
  obtain ⟨s0, s1⟩ := HS.out _ (Keep.refl _ _)
  by_cases hv1 : v < 1
  · have g1 : decide (v < 1) = true := decide_eq_true hv1
    have G : Hid (checkC v cs = 1) := hid (by unfold checkC; rw [if_pos (.inl hv1)])
    go_wp2
    go_ret
    exact ⟨by rw [G.out]; rfl, HK0.out⟩
  have g1 : decide (v < 1) = false := decide_eq_false hv1
  by_cases hv2 : 1073741824 < v
  · have g2 : decide (1073741824 < v) = true := decide_eq_true hv2
    have G : Hid (checkC v cs = 1) := hid (by unfold checkC; rw [if_pos (.inr hv2)])
    go_wp2
    go_ret
    exact ⟨by rw [G.out]; rfl, HK0.out⟩
  have g2 : decide (1073741824 < v) = false := decide_eq_false hv2
  have HCK0 : Hid (CK v cs 0 0) := hid ⟨by unfold checkC; rw [if_neg (by omega)]; rfl, Int.le_refl _, fun _ => rfl, fun j hj => by omega⟩
  go_wp2_with fail
  clear g1 g2 hv1 hv2 s0 s1
  go_loopw [3, 4, 5, 6, 7, 8, 9, 10, 11] (fun i _ _ _ _ _ _ _ _ wr => ∃ (k : Nat) (lst : Int), k ≤ cs.length ∧ i = iV k ∧ CK v cs k lst ∧ Keep (fun _ => False) w0 wr) (fun i _ _ _ _ _ _ _ _ _ => cs.length + 1 - (intOf i).toNat)
  case atStart => exact ⟨0, 0, Nat.zero_le _, rfl, HCK0.out, Keep.refl _ _⟩
  case round =>
    clear HCK0
    obtain ⟨k, lst, hk, rfl, hck, hkr⟩ := hrel
    have HCK := hid hck; have HKR := hid hkr
    clear hck hkr
    obtain ⟨s0, s1⟩ := HS.out _ HKR.out
    by_cases hlt : k < cs.length
    · obtain ⟨c, hcc⟩ : ∃ c, cs[k]? = some c := ⟨cs[k], by simp [hlt]⟩
      have HL := hid (HSM.out.2 c (List.mem_of_getElem? hcc))
      have HCC := hid hcc
      have HP : Hid (∀ j, k = j + 1 → ∃ b o, p = some ⟨b, o, none⟩ ∧ ∀ wy, Keep (fun _ => False) w0 wy → wy.cell? ⟨b, o + j * 3, none⟩ = some (.int .i64 lst)) := hid (fun j hj => by
        obtain ⟨d, hd, hdl⟩ := HCK.out.pre j hj
        obtain ⟨b, o, _, _, hp, _, _⟩ := CP.at HF0.out hd
        refine ⟨b, o, hp, fun wy hk => ?_⟩
        obtain ⟨b', o', _, _, hp', _, hc0, _⟩ := CP.at (HC.out wy hk) hd
        rw [hp] at hp'
        injection hp' with hp'
        injection hp' with e1 e2
        subst e1; subst e2
        rw [hc0, hdl])
      obtain ⟨b, off, fq, fk, rfl, hb, c0, c1, c2, _, hff⟩ := CP.at (HC.out _ HKR.out) hcc
      have hin : (0 : Int) ≤ (k : Int) ∧ (k : Int) < (cs.length : Int) := ⟨by omega, by omega⟩
      obtain ⟨ci, cn, fs⟩ := c
      simp only at c0 c1 c2 hff
      have HBC := hid (heap_alloc_new wr (.cells #[.int .i64 ci, .string cn, .slice fq fs.length fk] 72))
      have hk5 := (Keep.refl (fun _ => False) wr).alloc (.cells #[.int .i64 ci, .string cn, .slice fq fs.length fk] 72)
      have HF5 := hid (FP.mono (FP.low hff (Low.keep0 hk5)) hk5.size)
      have HK5 := hid (HKR.out.trans hk5)
      clear hk5 hff hcc
      go_upto_region 7 with fail
      generalize wr.alloc (.cells #[.int .i64 ci, .string cn, .slice fq fs.length fk] 72) = w5 at *
      generalize wr.heap.size = cb at *
      clear c0 c1 c2 s0 s1 hb HKR
      have HW : Hid (∀ wy, Keep (fun _ => False) w5 wy → (wy.cell? ⟨sb, 0, none⟩ = some (.int .i64 v) ∧ wy.cell? ⟨sb, 1, none⟩ = some (.slice (some ⟨b, off, none⟩) cs.length cap)) ∧ wy.cell? ⟨cb, 0, none⟩ = some (.int .i64 ci) ∧ wy.cell? ⟨cb, 1, none⟩ = some (.string cn) ∧ wy.cell? ⟨cb, 2, none⟩ = some (.slice fq fs.length fk)) := hid (fun wy hk =>
        ⟨HS.out _ (HK5.out.trans hk), cell_of (hk.get HBC.out (fun h => h)) (by rfl), cell_of (hk.get HBC.out (fun h => h)) (by rfl), cell_of (hk.get HBC.out (fun h => h)) (by rfl)⟩)
      have HD : Hid (∀ wy, Keep (fun _ => False) w5 wy → FP wy wy.heap.size fq fs) := hid (fun wy hk => FP.mono (FP.low HF5.out (Low.keep0 hk)) hk.size)
      obtain ⟨⟨s0, s1⟩, c0, c1, c2⟩ := HW.out _ ((Keep.refl (fun _ => False) w5).drew)
      go_cut [55] from 20 to 116 (fun x wx => x = .bool (decide (ci ≤ lst ∨ 24 < ci)) ∧ Keep (fun _ => False) w5 wx)
      case first =>
        go_wp2_with fail
        refine Plan.wp_region_pl [(false, 0, []), (false, 1, []), (false, 2, []), (false, 3, []), (false, 4, []), (false, 5, []), (false, 6, []), (false, 7, []), (false, 8, []), (false, 9, []), (false, 10, []), (false, 11, []), (false, 12, []), (false, 13, []), (false, 14, []), (false, 15, []), (false, 16, []), (false, 17, []), (false, 18, []), (false, 19, []), (false, 20, []), (false, 21, []), (false, 22, []), (false, 23, [])] (by kernel_rfl) (by kernel_rfl) ?_
        by_cases h1 : ci < 1
        · have g1 : decide (ci < 1) = true := decide_eq_true h1
          have G : Hid (ci ≤ lst ∨ 24 < ci) := hid (.inl (by have := HCK.out.nn; omega))
          iterate 24 (refine Plan.pl_st rfl ?_; go_big_quiet_step (fail); refine wpQuiet_nil ?_)
          refine Plan.pl_end ?_
          go_wp2
          go_meet
          case rel => exact ⟨by rw [decide_eq_true G.out], (Keep.refl _ _).drew⟩
        have g1 : decide (ci < 1) = false := decide_eq_false h1
        by_cases h2 : 24 < ci
        · have g2 : decide (24 < ci) = true := decide_eq_true h2
          have G : Hid (ci ≤ lst ∨ 24 < ci) := hid (.inr h2)
          iterate 24 (refine Plan.pl_st rfl ?_; go_big_quiet_step (fail); refine wpQuiet_nil ?_)
          refine Plan.pl_end ?_
          go_wp2
          go_meet
          case rel => exact ⟨by rw [decide_eq_true G.out], (Keep.refl _ _).drew⟩
        have g2 : decide (24 < ci) = false := decide_eq_false h2
        cases k with
        | zero =>
          have G : Hid (¬ (ci ≤ lst ∨ 24 < ci)) := hid (by have := HCK.out.at0 rfl; omega)
          iterate 24 (refine Plan.pl_st rfl ?_; go_big_quiet_step (fail); refine wpQuiet_nil ?_)
          refine Plan.pl_end ?_
          go_wp2
          go_meet
          case rel => exact ⟨by rw [decide_eq_false G.out], (Keep.refl _ _).drew⟩
        | succ j =>
          have g3 : decide ((0 : Int) < ((j + 1 : Nat) : Int)) = true := decide_eq_true (by omega)
          have g4 : decide (0 < j + 1) = true := decide_eq_true (by omega)
          obtain ⟨b', o', hp, hpc⟩ := HP.out j rfl
          injection hp with hp
          injection hp with e1 e2
          subst e1; subst e2
          have cp := hpc _ (HK5.out.drew)
          have hinj : (0 : Int) ≤ (j : Int) ∧ (j : Int) < (cs.length : Int) := ⟨by omega, by omega⟩
          have hjs : ((j + 1 : Nat) : Int) - 1 = (j : Int) := by omega
          clear hpc
          by_cases h3 : ci ≤ lst
          · have g5 : decide (ci ≤ lst) = true := decide_eq_true h3
            have G : Hid (ci ≤ lst ∨ 24 < ci) := hid (.inl h3)
            iterate 24 (refine Plan.pl_st rfl ?_; go_big_quiet_step (fail); refine wpQuiet_nil ?_)
            refine Plan.pl_end ?_
            go_wp2
            go_meet
            case rel => exact ⟨by rw [decide_eq_true G.out], (Keep.refl _ _).drew⟩
          · have g5 : decide (ci ≤ lst) = false := decide_eq_false h3
            have G : Hid (¬ (ci ≤ lst ∨ 24 < ci)) := hid (by omega)
            iterate 24 (refine Plan.pl_st rfl ?_; go_big_quiet_step (fail); refine wpQuiet_nil ?_)
            refine Plan.pl_end ?_
            go_wp2
            go_meet
            case rel => exact ⟨by rw [decide_eq_false G.out], (Keep.refl _ _).drew⟩
      case rest =>
      obtain ⟨rfl, hkx⟩ := hcut
      have HKX := hid hkx
      clear hkx s0 s1 c0 c1 c2
      obtain ⟨⟨s0, s1⟩, c0, c1, c2⟩ := HW.out _ HKX.out
      by_cases hbad : ci ≤ lst ∨ 24 < ci
      · have G := hid (HCK.out.bad1 HCC.out hbad)
        rw [decide_eq_true hbad]
        clear hbad
        go_wp2
        go_ret
        exact ⟨by rw [G.out]; rfl, HK0.out.trans (HK5.out.trans HKX.out)⟩
      rw [decide_eq_false hbad]
      have HNB := hid hbad
      clear hbad
      go_wp2_with fail
      refine (r_name cn _).mono ?_
      rintro r w_ ⟨rfl, rfl⟩
      by_cases hnm : nameB cn = false
      · have G := hid (HCK.out.bad4 HCC.out HNB.out (.inl hnm))
        rw [hnm]
        clear hnm
        go_wp2
        go_ret
        exact ⟨by rw [G.out]; rfl, HK0.out.trans (HK5.out.trans HKX.out)⟩
      have HNM := hid hnm
      rw [show nameB cn = true by cases e : nameB cn with | true => rfl | false => exact absurd e hnm]
      clear hnm s0 s1 c0 c1 c2
      go_wp2_with fail
      go_loopw [5] (fun i wy => ∃ m : Nat, m ≤ k ∧ i = iV m ∧ (∀ d ∈ cs.take m, d.name ≠ cn) ∧ Keep (fun _ => False) w5 wy) (fun i _ => k + 1 - (intOf i).toNat)
      case atStart => exact ⟨0, Nat.zero_le _, rfl, by simp, HKX.out⟩
      case round =>
        clear HKX
        obtain ⟨m, hm, rfl, hall, hkm⟩ := hrel
        have HALL := hid hall; have HKM := hid hkm
        clear hall hkm
        by_cases hmk : m < k
        · have g1 : decide ((m : Int) < (k : Int)) = true := decide_eq_true (by omega)
          have g2 : decide (m < k) = true := decide_eq_true hmk
          obtain ⟨d, hd⟩ : ∃ d, cs[m]? = some d := ⟨cs[m], by simp [show m < cs.length by omega]⟩
          have HDM : Hid (d ∈ cs.take k) := hid (List.mem_of_getElem? (i := m) (by rw [List.getElem?_take_of_lt hmk]; exact hd))
          have HNX : Hid (d.name ≠ cn → ∀ x ∈ cs.take (m + 1), x.name ≠ cn) := hid (fun hc x hx => by
            rw [take_next hd] at hx
            rcases List.mem_append.1 hx with h | h
            · exact HALL.out x h
            · rw [List.mem_singleton.1 h]; exact hc)
          obtain ⟨⟨s0, s1⟩, c0, c1, c2⟩ := HW.out _ HKM.out.drew
          obtain ⟨b', o', _, _, hp, _, _, e1, _⟩ := CP.at (HC.out _ (HK5.out.trans HKM.out.drew)) hd
          injection hp with hp
          injection hp with q1 q2
          subst q1; subst q2
          have hin2 : (0 : Int) ≤ (m : Int) ∧ (m : Int) < (cs.length : Int) := ⟨by omega, by omega⟩
          have hs := seq_dec d.name cn
          have HWK := hid ((HK5.out.trans HKM.out.drew))
          clear hd
          obtain ⟨di, dn, dfs⟩ := d
          simp only at e1 hs HNX
          by_cases hdn : dn = cn
          · have G := hid (HCK.out.bad4 HCC.out HNB.out (.inr (memB_yes HDM.out hdn)))
            rw [decide_eq_true hdn] at hs
            clear hdn
            go_wp2_with fail
            refine Plan.wp_region_pl [(false, 0, []), (false, 1, []), (false, 2, []), (false, 3, []), (false, 4, []), (false, 5, []), (false, 6, []), (false, 7, []), (false, 8, [])] (by kernel_rfl) (by kernel_rfl) ?_
            iterate 9 (refine Plan.pl_st rfl ?_; go_big_quiet_step (fail); refine wpQuiet_nil ?_)
            refine Plan.pl_end ?_
            go_wp2
            go_ret
            exact ⟨by rw [G.out]; rfl, HK0.out.trans HWK.out⟩
          · have G := hid (HNX.out hdn)
            rw [decide_eq_false hdn] at hs
            clear hdn
            go_wp2_with fail
            refine Plan.wp_region_pl [(false, 0, []), (false, 1, []), (false, 2, []), (false, 3, []), (false, 4, []), (false, 5, []), (false, 6, []), (false, 7, []), (false, 8, [])] (by kernel_rfl) (by kernel_rfl) ?_
            iterate 9 (refine Plan.pl_st rfl ?_; go_big_quiet_step (fail); refine wpQuiet_nil ?_)
            refine Plan.pl_end ?_
            go_wp2
            go_roundw
            case rel => exact ⟨m + 1, by omega, by go_num, G.out, HKM.out.drew⟩
            case measure => simp [intOf]; omega
        · obtain rfl : m = k := by omega
          have g1 : decide ((m : Int) < (m : Int)) = false := decide_eq_false (by omega)
          have g2 : decide (m < m) = false := decide_eq_false (by omega)
          have HNN : Hid (¬ (nameB cn = false ∨ memB cn ((cs.take m).map Cmp.name) = true)) := hid (fun h => by
            rcases h with h | h
            · exact HNM.out h
            · rw [memB_no HALL.out] at h; cases h)
          go_wp2_with fail
          have hfl65 : fs.length ≤ 4398046511104 := HL.out
          clear g1 g2
          go_loopw [6, 7] (fun i _ wy => ∃ j : Nat, j ≤ fs.length ∧ i = iV j ∧ fldBad [] fs = fldBad ((fs.take j).map Fld.name) (fs.drop j) ∧ Keep (fun _ => False) w5 wy) (fun i _ _ => fs.length + 1 - (intOf i).toNat)
          case atStart => exact ⟨0, Nat.zero_le _, rfl, rfl, HKM.out⟩
          case round =>
            clear HKM
            obtain ⟨j, hj, rfl, hbd, hkj⟩ := hrel
            have HBD := hid hbd; have HKJ := hid hkj
            clear hbd hkj
            by_cases hjt : j < fs.length
            · obtain ⟨f, hfk⟩ : ∃ f, fs[j]? = some f := ⟨fs[j], by simp [hjt]⟩
              have HFB := hid (show fldBad [] fs = (!nameB f.name || (memB f.name ((fs.take j).map Fld.name) || fldBad ((fs.take (j + 1)).map Fld.name) (fs.drop (j + 1)))) by
                rw [HBD.out, drop_next hfk, fldBad_cons, take_next hfk, List.map_append]; rfl)
              have HF4 : Hid (fldBad [] fs = true → checkC v cs = 4) := hid (fun h => by
                have h4 : fieldsC fs = 4 := by unfold fieldsC; rw [if_pos h]
                rw [HCK.out.badF HCC.out HNB.out HNN.out (by simp only; rw [h4]; decide)]
                exact h4)
              have HJF := hid hfk
              obtain ⟨⟨s0, s1⟩, c0, c1, c2⟩ := HW.out _ HKJ.out
              obtain ⟨b2, off2, rfl, hb2, e0, e1, e2⟩ := FP.at (HD.out _ HKJ.out) hfk
              have hin2 : (0 : Int) ≤ (j : Int) ∧ (j : Int) < (fs.length : Int) := ⟨by omega, by omega⟩
              obtain ⟨fn, kd, ct⟩ := f
              simp only at e0 HFB
              clear hfk e1 e2 hb2
              go_wp2_with fail
              refine (r_name fn _).mono ?_
              rintro r w_ ⟨rfl, rfl⟩
              cases hnf : nameB fn
              · have G := hid (HF4.out (by rw [HFB.out, hnf]; rfl))
                clear hnf
                go_wp2
                go_ret
                exact ⟨by rw [G.out]; rfl, HK0.out.trans (HK5.out.trans HKJ.out)⟩
              have HNF := hid hnf
              clear hnf s0 s1 c0 c1 c2 e0
              go_wp2_with fail
              go_loopw [7] (fun i wy => ∃ m2 : Nat, m2 ≤ j ∧ i = iV m2 ∧ (∀ d ∈ fs.take m2, d.name ≠ fn) ∧ Keep (fun _ => False) w5 wy) (fun i _ => j + 1 - (intOf i).toNat)
              case atStart => exact ⟨0, Nat.zero_le _, rfl, by simp, HKJ.out⟩
              case round =>
                clear HKJ
                obtain ⟨m2, hm2, rfl, hall2, hkm2⟩ := hrel
                have HALL2 := hid hall2; have HKM2 := hid hkm2
                clear hall2 hkm2
                by_cases hmj : m2 < j
                · have g1 : decide ((m2 : Int) < (j : Int)) = true := decide_eq_true (by omega)
                  have g2 : decide (m2 < j) = true := decide_eq_true hmj
                  obtain ⟨d, hd⟩ : ∃ d, fs[m2]? = some d := ⟨fs[m2], by simp [show m2 < fs.length by omega]⟩
                  have HDM : Hid (d ∈ fs.take j) := hid (List.mem_of_getElem? (i := m2) (by rw [List.getElem?_take_of_lt hmj]; exact hd))
                  have HNX : Hid (d.name ≠ fn → ∀ x ∈ fs.take (m2 + 1), x.name ≠ fn) := hid (fun hc x hx => by
                    rw [take_next hd] at hx
                    rcases List.mem_append.1 hx with h | h
                    · exact HALL2.out x h
                    · rw [List.mem_singleton.1 h]; exact hc)
                  obtain ⟨⟨s0, s1⟩, c0, c1, c2⟩ := HW.out _ HKM2.out.drew
                  obtain ⟨b3, o3, hp3, _, e3, _, _⟩ := FP.at (HD.out _ HKM2.out.drew) hd
                  injection hp3 with hp3
                  injection hp3 with q1 q2
                  subst q1; subst q2
                  obtain ⟨b4, o4, hp4, _, e4, _, _⟩ := FP.at (HD.out _ HKM2.out.drew) HJF.out
                  injection hp4 with hp4
                  injection hp4 with q1 q2
                  subst q1; subst q2
                  simp only at e4
                  have hin3 : (0 : Int) ≤ (m2 : Int) ∧ (m2 : Int) < (fs.length : Int) := ⟨by omega, by omega⟩
                  have hs := seq_dec d.name fn
                  have HWK := hid (HK5.out.trans HKM2.out.drew)
                  clear hd
                  obtain ⟨dn, dk, dc⟩ := d
                  simp only at e3 hs HNX
                  by_cases hdn : dn = fn
                  · have G := hid (HF4.out (by rw [HFB.out, HNF.out, memB_yes HDM.out hdn]; rfl))
                    rw [decide_eq_true hdn] at hs
                    clear hdn
                    go_wp2_with fail
                    refine Plan.wp_region_pl [(false, 0, []), (false, 1, []), (false, 2, []), (false, 3, []), (false, 4, []), (false, 5, []), (false, 6, []), (false, 7, []), (false, 8, []), (false, 9, []), (false, 10, []), (false, 11, []), (false, 12, [])] (by kernel_rfl) (by kernel_rfl) ?_
                    iterate 13 (refine Plan.pl_st rfl ?_; go_big_quiet_step (fail); refine wpQuiet_nil ?_)
                    refine Plan.pl_end ?_
                    go_wp2
                    go_ret
                    exact ⟨by rw [G.out]; rfl, HK0.out.trans HWK.out⟩
                  · have G := hid (HNX.out hdn)
                    rw [decide_eq_false hdn] at hs
                    clear hdn
                    go_wp2_with fail
                    refine Plan.wp_region_pl [(false, 0, []), (false, 1, []), (false, 2, []), (false, 3, []), (false, 4, []), (false, 5, []), (false, 6, []), (false, 7, []), (false, 8, []), (false, 9, []), (false, 10, []), (false, 11, []), (false, 12, [])] (by kernel_rfl) (by kernel_rfl) ?_
                    iterate 13 (refine Plan.pl_st rfl ?_; go_big_quiet_step (fail); refine wpQuiet_nil ?_)
                    refine Plan.pl_end ?_
                    go_wp2
                    go_roundw
                    case rel => exact ⟨m2 + 1, by omega, by go_num, G.out, HKM2.out.drew⟩
                    case measure => simp [intOf]; omega
                · obtain rfl : m2 = j := by omega
                  have g1 : decide ((m2 : Int) < (m2 : Int)) = false := decide_eq_false (by omega)
                  have g2 : decide (m2 < m2) = false := decide_eq_false (by omega)
                  have G := hid (show fldBad [] fs = fldBad ((fs.take (m2 + 1)).map Fld.name) (fs.drop (m2 + 1)) by rw [HFB.out, HNF.out, memB_no HALL2.out]; rfl)
                  clear HFB HF4
                  go_wp2
                  go_roundw
                  case rel => exact ⟨m2 + 1, by omega, by go_num, G.out, HKM2.out⟩
                  case measure => simp [intOf]; omega
            · obtain rfl : j = fs.length := by omega
              have g1 : decide ((fs.length : Int) < (fs.length : Int)) = false := decide_eq_false (by omega)
              have HFC : Hid (fieldsC fs = layC fs) := hid (by
                have := HBD.out
                rw [List.drop_length] at this
                unfold fieldsC
                rw [this, if_neg (by simp [fldBad])])
              obtain ⟨⟨s0, s1⟩, c0, c1, c2⟩ := HW.out _ HKJ.out
              go_wp2_with fail
              refine (r_lay fs fq fk _ (HD.out _ HKJ.out)).mono ?_
              rintro r w9 ⟨hr, hk9⟩
              have HKA := hid (HKJ.out.trans hk9)
              clear hk9 s0 s1 c0 c1 c2 HKJ g1
              rcases hr with ⟨hne, rfl⟩ | ⟨heq, xp, xc, xq, xd, rfl, _⟩
              · have G := hid (show checkC v cs = layC fs by rw [HCK.out.badF HCC.out HNB.out HNN.out (by simp only; rw [HFC.out]; exact hne)]; exact HFC.out)
                generalize layC fs = e at *
                have g1 : ((e : Int) != 0) = true := by simp only [bne, beq_eq_false_iff_ne.2 (show (e : Int) ≠ 0 by omega)]; rfl
                have g2 : (e != 0) = true := by simp only [bne, beq_eq_false_iff_ne.2 hne]; rfl
                go_wp2
                go_ret
                exact ⟨by rw [G.out]; rfl, HK0.out.trans (HK5.out.trans HKA.out)⟩
              · have G := hid (HCK.out.next HCC.out HNB.out HNN.out (by simp only; rw [HFC.out]; exact heq))
                clear heq
                go_wp2
                go_roundw
                case rel => exact ⟨m + 1, ci, by omega, by go_num, G.out, HK5.out.trans HKA.out⟩
                case measure => simp [intOf]; omega
    · obtain rfl : k = cs.length := by omega
      have G := hid HCK.out.end
      have g1 : decide ((cs.length : Int) < (cs.length : Int)) = false := decide_eq_false (by omega)
      go_wp2
      go_ret
      exact ⟨by rw [G.out]; rfl, HK0.out.trans HKR.out⟩
end Go.Proofs.Ytcbboaoakgngkaa

namespace Go.Proofs.Ytcbboaoakgngkaa
open Go.RowKit Go.Proofs.Heap Go.Proofs.Sch

/-- The first place from n on. -/
def idxFrom {α : Type} (q : α → Bool) (l : List α) (n : Nat) : Int := match (l.drop n).findIdx? q with | some i => (n : Int) + i | none => -1
theorem idxFrom_end {α : Type} (q : α → Bool) (l : List α) : idxFrom q l l.length = -1 := by unfold idxFrom; rw [List.drop_length]; rfl
theorem idxFrom_zero {α : Type} (q : α → Bool) (l : List α) : idxFrom q l 0 = idxI q l := by
  unfold idxFrom idxI
  rw [List.drop_zero]
  cases l.findIdx? q <;> simp
theorem idxFrom_yes {α : Type} {q : α → Bool} {l : List α} {n : Nat} {x : α} (h : l[n]? = some x) (hq : q x = true) : idxFrom q l n = (n : Int) := by
  unfold idxFrom
  rw [drop_next h, List.findIdx?_cons, if_pos hq]
  simp
theorem idxFrom_no {α : Type} {q : α → Bool} {l : List α} {n : Nat} {x : α} (h : l[n]? = some x) (hq : q x = false) : idxFrom q l n = idxFrom q l (n + 1) := by
  unfold idxFrom
  rw [drop_next h, List.findIdx?_cons, if_neg (by rw [hq]; exact Bool.false_ne_true)]
  cases (l.drop (n + 1)).findIdx? q with
  | none => rfl
  | some i => simp; omega

/-- What a search answers, with the place. -/
def FoundC (w' : World) (q : Cmp → Bool) (cs : List Cmp) (r : Ending) : Prop :=
  ∃ (i : Int) (nm : ByteArray) (fs : List Fld) (p : Option Addr) (z : Nat) (B : Bool), r = .returned (.tuple #[.agg #[.int .i64 i, .string nm, .slice p fs.length z], .bool B]) ∧ FP w' w'.heap.size p fs ∧
    ((B = true ∧ ∃ k : Nat, idxI q cs = (k : Int) ∧ cs[k]? = some ⟨i, nm, fs⟩) ∨ (B = false ∧ idxI q cs = -1 ∧ (i = 0 ∧ nm = ⟨#[]⟩ ∧ fs = [])))
theorem Found.toC {B : Nat} {w' : World} {q : Cmp → Bool} {cs : List Cmp} {r : Ending} (h : Found B w' q cs r) : FoundC w' q cs r := by
  rcases h with ⟨k, c, p, z, h1, h2, _, rfl, h4, h5⟩ | ⟨h1, rfl⟩
  · exact ⟨c.id, c.name, c.fs, p, z, true, rfl, fp_own rfl h5, .inl ⟨rfl, k, h1, h2⟩⟩
  · exact ⟨0, ⟨#[]⟩, [], none, 0, false, rfl, .inl rfl, .inr ⟨rfl, h1, rfl, rfl, rfl⟩⟩

set_option maxRecDepth 20000 in
set_option maxHeartbeats 2000000 in
theorem r_find (id v : Int) (cs : List Cmp) (p : Option Addr) (cap : Nat) (w : World) (hl : cs.length ≤ 2932031007402) (hf : CP w w.heap.size p cs) :
    Calls Try.prog 37 #[.agg #[.int .i64 v, .slice p cs.length cap], .int .i64 id] w fun r w' => r = .returned (.int .i64 (idxI (fun c => decide (c.id = id)) cs)) ∧ Keep (fun _ => False) w w' := by
  have hk0 := (Keep.refl (fun _ => False) w).alloc (.cells #[.int .i64 v, .slice p cs.length cap] 36)
  have HB0 := hid (heap_alloc_new w (.cells #[.int .i64 v, .slice p cs.length cap] 36))
  have HF0 := hid (CP.mono (CP.low hf (Low.keep0 hk0)) hk0.size)
  have HK0 := hid hk0
  clear hf hk0
  go_enter Try.func37, Try.ntmps37
  go_upto_region 1 with fail
  generalize w.alloc (.cells #[.int .i64 v, .slice p cs.length cap] 36) = w0 at *
  generalize w.heap.size = sb at *
  have s1 : w0.cell? ⟨sb, 1, none⟩ = some (.slice p cs.length cap) := cell_of HB0.out (by rfl)
  go_wp2_with fail
  go_loopw [5] (fun i wr => ∃ k : Nat, k ≤ cs.length ∧ i = iV k ∧ (∀ d ∈ cs.take k, decide (d.id = id) = false) ∧ w0 = wr) (fun i _ => cs.length + 1 - (intOf i).toNat)
  case atStart => exact ⟨0, Nat.zero_le _, rfl, by simp, rfl⟩
  case round =>
    obtain ⟨k, hk, rfl, hall, rfl⟩ := hrel
    have HALL := hid hall
    clear hall
    by_cases hlt : k < cs.length
    · obtain ⟨c, hcc⟩ : ∃ c, cs[k]? = some c := ⟨cs[k], by simp [hlt]⟩
      obtain ⟨b, off, fq, fk, rfl, hb, c0, c1, c2, _, _⟩ := CP.at HF0.out hcc
      have hin : (0 : Int) ≤ (k : Int) ∧ (k : Int) < (cs.length : Int) := ⟨by omega, by omega⟩
      by_cases he : c.id = id
      · have G := hid (idx_at (q := fun c : Cmp => decide (c.id = id)) hcc (decide_eq_true he) HALL.out)
        have g1 : (c.id == id) = true := beq_iff_eq.2 he
        clear he hcc
        go_wp2
        go_ret
        exact ⟨by rw [G.out]; rfl, HK0.out⟩
      · have G : Hid (∀ d ∈ cs.take (k + 1), decide (d.id = id) = false) := hid (fun d hd => by
          rw [take_next hcc] at hd
          rcases List.mem_append.1 hd with h | h
          · exact HALL.out d h
          · rw [List.mem_singleton.1 h]; exact decide_eq_false he)
        have g1 : (c.id == id) = false := beq_eq_false_iff_ne.2 he
        clear hcc
        go_wp2
        go_roundw
        case rel => exact ⟨k + 1, by omega, by go_num, G.out, by trivial⟩
        case measure => simp [intOf]; omega
    · obtain rfl : k = cs.length := by omega
      have G := hid (idx_none (q := fun c : Cmp => decide (c.id = id)) (by have := HALL.out; rwa [List.take_length] at this))
      have g1 : decide ((cs.length : Int) < (cs.length : Int)) = false := decide_eq_false (by omega)
      clear HALL
      go_wp2
      go_ret
      exact ⟨by rw [G.out]; rfl, HK0.out⟩
end Go.Proofs.Ytcbboaoakgngkaa

namespace Go.Proofs.Ytcbboaoakgngkaa
open Go.RowKit Go.Proofs.Heap Go.Proofs.Sch

/-- Whether a row of systems is more than is asked. -/
def bigS (s : VSys) : Bool := decide (100 < s.name.size ∨ 12 < s.after.length ∨ 80 < s.code.length)
def greatS (l : List VSys) : Bool := decide (20 < l.length) || l.any bigS
theorem greatS_no {l : List VSys} (h : greatS l = false) : l.length ≤ 20 ∧ ∀ s ∈ l, s.name.size ≤ 100 ∧ s.after.length ≤ 12 ∧ s.code.length ≤ 80 := by
  unfold greatS at h
  rw [Bool.or_eq_false_iff, List.any_eq_false] at h
  refine ⟨by have := of_decide_eq_false h.1; omega, fun s hs => ?_⟩
  have := h.2 s hs
  unfold bigS at this
  rw [decide_eq_true_iff] at this
  omega

set_option maxRecDepth 20000 in
set_option maxHeartbeats 8000000 in
theorem sl_great (l : List VSys) (q : Option Addr) (qc : Nat) (w : World) (hs : SP w w.heap.size q l) :
    Calls Try.prog 22 #[.slice q l.length qc] w fun r w' => r = .returned (.bool (greatS l)) ∧ w = w' := by
  have HS := hid hs
  have HG : Hid (greatS l = (decide (20 < l.length) || l.any bigS)) := hid rfl
  generalize greatS l = R at *
  clear hs
  go_enter Try.func22, Try.ntmps22
  by_cases h20 : 20 < l.length
  · have g0 : (20 : Int) < (l.length : Int) := by omega
    have G : Hid (R = true) := hid (by rw [HG.out, decide_eq_true h20]; rfl)
    go_wp2
    go_ret
    exact ⟨by rw [G.out]; rfl, rfl⟩
  have g0 : ¬ (20 : Int) < (l.length : Int) := by omega
  have HG1 : Hid (R = l.any bigS) := hid (by rw [HG.out, decide_eq_false h20]; rfl)
  go_wp2_with fail
  clear g0
  go_loopw [3] (fun i wr => ∃ k : Nat, k ≤ l.length ∧ i = iV k ∧ (∀ s ∈ l.take k, bigS s = false) ∧ w = wr) (fun i _ => l.length + 1 - (intOf i).toNat)
  case atStart => exact ⟨0, by omega, rfl, by simp, rfl⟩
  case round =>
    obtain ⟨k, hk, rfl, hno, rfl⟩ := hrel
    have HNO := hid hno
    clear hno
    by_cases hlt : k < l.length
    · obtain ⟨s, hsk⟩ : ∃ s, l[k]? = some s := ⟨l[k], by simp [hlt]⟩
      obtain ⟨b, off, pa, ca, pc, cc, rfl, hb, c0, c1, c2, c3, c4, c5, n1, n2, hca, hta, hvc⟩ := SP.at HS.out hsk
      have hin : (0 : Int) ≤ (k : Int) ∧ (k : Int) < (l.length : Int) := ⟨by omega, by omega⟩
      have HSK := hid hsk
      have HYES : Hid (bigS s = true → R = true) := hid (fun h => by rw [HG1.out]; exact List.any_eq_true.2 ⟨s, List.mem_of_getElem? HSK.out, h⟩)
      have HBS : Hid (bigS s = decide (100 < s.name.size ∨ 12 < s.after.length ∨ 80 < s.code.length)) := hid rfl
      clear hsk hb c1 c3 c4 n1 n2 hca hta hvc
      by_cases h2 : 100 < s.name.size
      · have g3 : decide ((100 : Int) < (s.name.size : Int)) = true := decide_eq_true (by omega)
        have g4 : decide (100 < s.name.size) = true := decide_eq_true h2
        have G := hid (HYES.out (by rw [HBS.out]; exact decide_eq_true (.inl h2)))
        go_wp2
        go_ret
        exact ⟨by rw [G.out]; rfl, rfl⟩
      have g3 : decide ((100 : Int) < (s.name.size : Int)) = false := decide_eq_false (by omega)
      have g4 : decide (100 < s.name.size) = false := decide_eq_false h2
      by_cases h3 : 12 < s.after.length
      · have g5 : decide ((12 : Int) < (s.after.length : Int)) = true := decide_eq_true (by omega)
        have g6 : decide (12 < s.after.length) = true := decide_eq_true h3
        have G := hid (HYES.out (by rw [HBS.out]; exact decide_eq_true (.inr (.inl h3))))
        go_wp2
        go_ret
        exact ⟨by rw [G.out]; rfl, rfl⟩
      have g5 : decide ((12 : Int) < (s.after.length : Int)) = false := decide_eq_false (by omega)
      have g6 : decide (12 < s.after.length) = false := decide_eq_false h3
      by_cases h4 : 80 < s.code.length
      · have g7 : decide ((80 : Int) < (s.code.length : Int)) = true := decide_eq_true (by omega)
        have g8 : decide (80 < s.code.length) = true := decide_eq_true h4
        have G := hid (HYES.out (by rw [HBS.out]; exact decide_eq_true (.inr (.inr h4))))
        go_wp2
        go_ret
        exact ⟨by rw [G.out]; rfl, rfl⟩
      have g7 : decide ((80 : Int) < (s.code.length : Int)) = false := decide_eq_false (by omega)
      have g8 : decide (80 < s.code.length) = false := decide_eq_false h4
      have G : Hid (∀ x ∈ l.take (k + 1), bigS x = false) := hid (fun x hx => by
        rw [take_next HSK.out] at hx
        rcases List.mem_append.1 hx with h | h
        · exact HNO.out x h
        · rw [List.mem_singleton.1 h, HBS.out]; exact decide_eq_false (by omega))
      go_wp2
      go_roundw
      case rel => exact ⟨k + 1, by omega, by go_num, G.out, by first | rfl | trivial⟩
      case measure => simp [intOf]; omega
    · obtain rfl : k = l.length := by omega
      have G : Hid (R = false) := hid (by
        rw [HG1.out, List.any_eq_false]
        intro x hx
        rw [HNO.out x (by rwa [List.take_length])]; simp)
      have g1 : decide ((l.length : Int) < (l.length : Int)) = false := decide_eq_false (by omega)
      have g2 : decide (l.length < l.length) = false := decide_eq_false (by omega)
      go_wp2
      go_ret
      exact ⟨by rw [G.out]; rfl, rfl⟩

/-- What the law looks for, from the end. -/
def hitS (l : List VSys) (t : ByteArray) (i : Int) : Bool := !outB l.length i && decide (nmS l i.toNat = t)
theorem idx_map {α β : Type} (q : β → Bool) (f : α → β) (L : List α) : idxI q (L.map f) = idxI (fun x => q (f x)) L := by
  unfold idxI
  rw [List.findIdx?_map]
  rfl
theorem idx_congr {α : Type} {q q' : α → Bool} : ∀ {L : List α}, (∀ x ∈ L, q x = q' x) → idxI q L = idxI q' L := fun {L} h => by
  unfold idxI
  have : L.findIdx? q = L.findIdx? q' := by
    induction L with
    | nil => rfl
    | cons a L ih =>
      rw [List.findIdx?_cons, List.findIdx?_cons, h a (by simp), ih (fun x hx => h x (by simp [hx]))]
  rw [this]
theorem ahead_hit {l : List VSys} {zs : List Int} (h : zs.any (outB l.length) = false) (t : ByteArray) : plcS l (zs.map Int.toNat) t = idxI (hitS l t) zs := by
  unfold plcS
  rw [idx_map]
  apply idx_congr
  intro x hx
  rw [List.any_eq_false] at h
  unfold hitS
  cases ho : outB l.length x
  · rfl
  · exact absurd ho (h x hx)
theorem ahead_law (l : List VSys) (zs : List Int) (a b : ByteArray) : aheadB l zs a b = (!zs.any (outB l.length) && decide (0 ≤ idxI (hitS l a) zs ∧ 0 ≤ idxI (hitS l b) zs ∧ idxI (hitS l a) zs < idxI (hitS l b) zs)) := by
  unfold aheadB
  cases h : zs.any (outB l.length)
  · rw [ahead_hit h, ahead_hit h]
  · rfl

set_option maxRecDepth 20000 in
set_option maxHeartbeats 16000000 in
theorem ahead_walk (q : Option Addr) (qc : Nat) (l : List VSys) (p : Option Addr) (cap : Nat) (zs : List Int) (a b : ByteArray) (w : World) (hs : SP w w.heap.size q l) (hf : IP w w.heap.size p zs) :
    Calls Try.prog 7 #[.slice q l.length qc, .slice p zs.length cap, .string a, .string b] w fun r w' => r = .returned (.bool true) ∧ Below w.heap.size w w' := by
  have HSP : Hid (∀ wy, Keep (fun _ => False) w wy → SP wy wy.heap.size q l) := hid (fun wy hk => SP.mono (SP.low hs (Low.keep0 hk)) hk.size)
  have HIP : Hid (∀ wy, Keep (fun _ => False) w wy → IP wy wy.heap.size p zs) := hid (fun wy hk => IP.mono (IP.low hf (Low.keep0 hk)) hk.size)
  clear hs hf
  go_enter Try.func7, Try.ntmps7
  go_wp2_with fail
  refine (sd_awake _).mono ?_
  rintro r w1 ⟨rfl, hk1⟩
  have HK1 := hid hk1
  clear hk1
  go_wp2_with fail
  refine (sl_great l q qc _ (HSP.out _ HK1.out)).mono ?_
  rintro r w_ ⟨rfl, rfl⟩
  cases hg : greatS l
  rotate_left
  · clear hg
    go_wp2
    go_ret
    exact ⟨rfl, HK1.out.below⟩
  have HGN := hid (greatS_no hg)
  clear hg
  by_cases h40 : 40 < zs.length
  · have g1 : decide ((40 : Int) < (zs.length : Int)) = true := decide_eq_true (by omega)
    have g2 : decide (40 < zs.length) = true := decide_eq_true h40
    go_wp2
    go_ret
    exact ⟨rfl, HK1.out.below⟩
  have g1 : decide ((40 : Int) < (zs.length : Int)) = false := decide_eq_false (by omega)
  have g2 : decide (40 < zs.length) = false := decide_eq_false h40
  have HE0 : Hid (idxFrom (hitS l a) zs zs.length = -1) := hid (idxFrom_end _ _)
  have HE1 : Hid (idxFrom (hitS l b) zs zs.length = -1) := hid (idxFrom_end _ _)
  go_wp2_with fail
  clear g1 g2
  go_loopw [9, 10, 11, 12, 13] (fun x y n i _ wr => ∃ m : Nat, m ≤ zs.length ∧ i = .int .i64 ((m : Int) - 1) ∧ x = .int .i64 (idxFrom (hitS l a) zs m) ∧ y = .int .i64 (idxFrom (hitS l b) zs m) ∧ n = .bool (!(zs.drop m).any (outB l.length)) ∧ w1 = wr) (fun _ _ _ i _ _ => (intOf i + 1).toNat)
  case atStart => exact ⟨zs.length, by omega, rfl, by rw [HE0.out], by rw [HE1.out], by rw [List.drop_length]; rfl, rfl⟩
  case round =>
    clear HE0 HE1
    obtain ⟨m, hm, rfl, rfl, rfl, rfl, rfl⟩ := hrel
    cases m with
    | zero =>
      have HAH := hid (sd_ahead l q qc zs p cap a b w1 (by omega) (HIP.out _ HK1.out) (HSP.out _ HK1.out))
      have HZA := hid (idxFrom_zero (hitS l a) zs)
      have HZB := hid (idxFrom_zero (hitS l b) zs)
      have HLAW := hid (ahead_law l zs a b)
      rw [HZA.out, HZB.out]
      rw [List.drop_zero]
      generalize aheadB l zs a b = R at *
      generalize idxI (hitS l a) zs = x at *
      generalize idxI (hitS l b) zs = y at *
      generalize zs.any (outB l.length) = o at *
      have g0 : decide ((0 : Int) ≤ ((0 : Nat) : Int) - 1) = false := decide_eq_false (by omega)
      go_wp2_with fail
      refine HAH.out.mono ?_
      rintro r w2 ⟨rfl, hk2⟩
      have HK2 := hid (HK1.out.trans hk2)
      clear hk2 HAH
      cases o
      rotate_left
      · have G : R = false := by rw [HLAW.out]; rfl
        rw [G]
        clear G HLAW
        go_wp2
        go_ret
        exact ⟨rfl, HK2.out.below⟩
      have HL2 : Hid (R = decide (0 ≤ x ∧ 0 ≤ y ∧ x < y)) := hid (by rw [HLAW.out]; rfl)
      clear HLAW
      by_cases h1 : 0 ≤ x
      rotate_left
      · have g1 : decide (0 ≤ x) = false := decide_eq_false h1
        have G : R = false := by rw [HL2.out, decide_eq_false (fun h => h1 h.1)]
        rw [G]
        clear h1 G HL2
        go_wp2
        go_ret
        exact ⟨rfl, HK2.out.below⟩
      have g1 : decide (0 ≤ x) = true := decide_eq_true h1
      by_cases h2 : 0 ≤ y
      rotate_left
      · have g2 : decide (0 ≤ y) = false := decide_eq_false h2
        have G : R = false := by rw [HL2.out, decide_eq_false (fun h => h2 h.2.1)]
        rw [G]
        clear h1 h2 G HL2
        go_wp2
        go_ret
        exact ⟨rfl, HK2.out.below⟩
      have g2 : decide (0 ≤ y) = true := decide_eq_true h2
      have G : R = decide (x < y) := by rw [HL2.out]; exact decide_eq_decide.2 ⟨fun h => h.2.2, fun h => ⟨h1, h2, h⟩⟩
      rw [G]
      clear h1 h2 G HL2
      cases hxy : decide (x < y)
      · go_wp2
        go_ret
        exact ⟨rfl, HK2.out.below⟩
      · go_wp2
        go_ret
        exact ⟨rfl, HK2.out.below⟩
    | succ m =>
      have hml : m < zs.length := by omega
      obtain ⟨z, hz⟩ : ∃ z, zs[m]? = some z := ⟨zs[m], by simp [hml]⟩
      have g0 : decide ((0 : Int) ≤ ((m + 1 : Nat) : Int) - 1) = true := decide_eq_true (by omega)
      have g0' : decide ((0 : Int) ≤ (m : Int)) = true := decide_eq_true (by omega)
      have hmI : ((m + 1 : Nat) : Int) - 1 = (m : Int) := by omega
      have hmJ : (m : Int) + 1 - 1 = (m : Int) := by omega
      rw [hmI]
      obtain ⟨ob, oo, rfl, _, d0⟩ := IP.at (HIP.out _ HK1.out) hz
      have hin : (0 : Int) ≤ (m : Int) ∧ (m : Int) < (zs.length : Int) := ⟨by omega, by omega⟩
      have HYA := hid (idxFrom_yes (q := hitS l a) hz)
      have HNA := hid (idxFrom_no (q := hitS l a) hz)
      have HYB := hid (idxFrom_yes (q := hitS l b) hz)
      have HNB := hid (idxFrom_no (q := hitS l b) hz)
      have HDR : Hid ((zs.drop m).any (outB l.length) = (outB l.length z || (zs.drop (m + 1)).any (outB l.length))) := hid (by rw [drop_next hz, List.any_cons])
      have HHA : Hid (hitS l a z = (!outB l.length z && decide (nmS l z.toNat = a))) := hid rfl
      have HHB : Hid (hitS l b z = (!outB l.length z && decide (nmS l z.toNat = b))) := hid rfl
      have HOB : Hid (outB l.length z = decide (z < 0 ∨ (l.length : Int) ≤ z)) := hid rfl
      generalize idxFrom (hitS l a) zs (m + 1) = xa at *
      generalize idxFrom (hitS l b) zs (m + 1) = xb at *
      generalize (zs.drop (m + 1)).any (outB l.length) = oa at *
      clear hz
      by_cases hout : z < 0 ∨ (l.length : Int) ≤ z
      · have ho : outB l.length z = true := by rw [HOB.out]; exact decide_eq_true hout
        have G1 := hid (HNA.out (by rw [HHA.out, ho]; rfl))
        have G2 := hid (HNB.out (by rw [HHB.out, ho]; rfl))
        have G3 : Hid ((zs.drop m).any (outB l.length) = true) := hid (by rw [HDR.out, ho]; rfl)
        clear ho
        by_cases hz0 : z < 0
        · have g1 : decide (z < 0) = true := decide_eq_true hz0
          clear hz0 hout
          go_wp2
          go_roundw
          case rel => exact ⟨m, by omega, rfl, by rw [G1.out], by rw [G2.out], by rw [G3.out]; rfl, by first | rfl | trivial⟩
          case measure => simp [intOf] <;> omega
        · have g1 : decide (z < 0) = false := decide_eq_false hz0
          have g2 : decide ((l.length : Int) ≤ z) = true := decide_eq_true (by omega)
          clear hz0 hout
          go_wp2
          go_roundw
          case rel => exact ⟨m, by omega, rfl, by rw [G1.out], by rw [G2.out], by rw [G3.out]; rfl, by first | rfl | trivial⟩
          case measure => simp [intOf] <;> omega
      have ho : outB l.length z = false := by rw [HOB.out]; exact decide_eq_false hout
      obtain ⟨zn, rfl⟩ := Int.eq_ofNat_of_zero_le (show 0 ≤ z by omega)
      have hzl : zn < l.length := by omega
      have hinz : (0 : Int) ≤ (zn : Int) ∧ (zn : Int) < (l.length : Int) := ⟨by omega, by omega⟩
      have g1 : decide ((zn : Int) < 0) = false := decide_eq_false (by omega)
      have g2 : decide ((l.length : Int) ≤ (zn : Int)) = false := decide_eq_false (by omega)
      have g3 : decide (l.length ≤ zn) = false := decide_eq_false (by omega)
      have G3 : Hid ((zs.drop m).any (outB l.length) = oa) := hid (by rw [HDR.out, ho]; rfl)
      obtain ⟨lb, lo, rfl⟩ := sp_some (HSP.out _ HK1.out) hzl
      have e0 := sys_name (HSP.out _ HK1.out) hzl
      have hsa := seq_dec (nmS l zn) a
      have hsb := seq_dec (nmS l zn) b
      rw [ho, Int.toNat_natCast] at HHA HHB
      generalize nmS l zn = nm at *
      clear ho hout HOB HDR
      cases hda : decide (nm = a)
      · have GA := hid (HNA.out (by rw [HHA.out, hda]; rfl))
        rw [hda] at hsa
        cases hdb : decide (nm = b)
        · have GB := hid (HNB.out (by rw [HHB.out, hdb]; rfl))
          rw [hdb] at hsb
          clear hda hdb
          go_wp2
          go_roundw
          case rel => exact ⟨m, by omega, rfl, by rw [GA.out], by rw [GB.out], by rw [G3.out], by first | rfl | trivial⟩
          case measure => simp [intOf] <;> omega
        · have GB := hid (HYB.out (by rw [HHB.out, hdb]; rfl))
          rw [hdb] at hsb
          clear hda hdb
          go_wp2
          go_roundw
          case rel => exact ⟨m, by omega, rfl, by rw [GA.out], by rw [GB.out], by rw [G3.out], by first | rfl | trivial⟩
          case measure => simp [intOf] <;> omega
      · have GA := hid (HYA.out (by rw [HHA.out, hda]; rfl))
        rw [hda] at hsa
        cases hdb : decide (nm = b)
        · have GB := hid (HNB.out (by rw [HHB.out, hdb]; rfl))
          rw [hdb] at hsb
          clear hda hdb
          go_wp2
          go_roundw
          case rel => exact ⟨m, by omega, rfl, by rw [GA.out], by rw [GB.out], by rw [G3.out], by first | rfl | trivial⟩
          case measure => simp [intOf] <;> omega
        · have GB := hid (HYB.out (by rw [HHB.out, hdb]; rfl))
          rw [hdb] at hsb
          clear hda hdb
          go_wp2
          go_roundw
          case rel => exact ⟨m, by omega, rfl, by rw [GA.out], by rw [GB.out], by rw [G3.out], by first | rfl | trivial⟩
          case measure => simp [intOf] <;> omega
end Go.Proofs.Ytcbboaoakgngkaa
